/- Part A of an abstract machine over the model: typed data (Ty, Ty.den), and how typed data lies in memory (RepD); its plain lemmas. No program in sight. -/
import Derived.WalkKit
import Derived.Orders
import Derived.OrdersIn
import Derived.CallsIn
import Derived.Below
import Derived.Laws.AppendOwn
import Derived.RangeFuncRecord
namespace Go.Vm

inductive Ty where
  | int (k : IntKind) | bool | str | flt (k : FloatKind) | slice (e : Ty) | unit | pair (a b : Ty) | arr (n : Nat) (e : Ty)
  deriving DecidableEq

@[reducible] def Ty.den : Ty → Type
  | .int _ => Int
  | .bool => Bool
  | .str => List UInt8
  | .flt _ => Nat
  | .slice e => List e.den
  | .unit => Unit
  | .pair a b => a.den × b.den
  | .arr _ e => List e.den

def Ty.size : Ty → Nat
  | .unit => 0
  | .pair a b => a.size + b.size
  | .arr n e => n * e.size
  | _ => 1

/-- is a value of it an aggregate? -/
def Ty.isAgg : Ty → Bool
  | .unit | .pair _ _ | .arr _ _ => true
  | _ => false

/-- is a word a NaN? the one that stands for all of them -/
def fNaN (k : FloatKind) (b : Nat) : Bool := (k.format.read b).isNaN
def nanW : FloatKind → Nat
  | .f32 => 0x7fc00000
  | .f64 => 0x7ff8000000000000
def canonF (k : FloatKind) (b : Nat) : Nat := if fNaN k b then nanW k else b

def CellsAt (w : World) (b off : Nat) (cs : List Value) : Prop := ∀ j v, cs[j]? = some v → w.cell? ⟨b, off + j, none⟩ = some v

def RepL {α : Type} (R : List Value → α → Prop) : List Value → List α → Prop
  | cs, [] => cs = []
  | cs, x :: xs => ∃ c1 c2, cs = c1 ++ c2 ∧ R c1 x ∧ RepL R c2 xs

def SliceAt {α : Type} (w : World) (im : Nat → Prop) (R : List Value → α → Prop) (a : Option Addr) (xs : List α) : Prop :=
  match a with
  | none => xs = []
  | some ad => xs = [] ∨ (ad.spot = none ∧ im ad.block ∧ ∃ cs, CellsAt w ad.block ad.off cs ∧ RepL R cs xs)

def RepD (w : World) (im : Nat → Prop) : (t : Ty) → List Value → t.den → Prop
  | .int k, cs, n => cs = [.int k n]
  | .bool, cs, b => cs = [.bool b]
  | .str, cs, s => cs = [.string ⟨s.toArray⟩]
  | .flt k, cs, b => ∃ r, cs = [.float k r] ∧ canonF k r = b
  | .slice e, cs, xs => ∃ a cap, cs = [.slice a xs.length cap] ∧ xs.length ≤ cap ∧ cap ≤ maxLen ∧ (a = none → cap = 0) ∧ SliceAt w im (RepD w im e) a xs
  | .unit, cs, _ => cs = []
  | .pair a b, cs, x => ∃ c1 c2, cs = c1 ++ c2 ∧ RepD w im a c1 x.1 ∧ RepD w im b c2 x.2
  | .arr n e, cs, xs => xs.length = n ∧ RepL (RepD w im e) cs xs

theorem CellsAt.mono {w w' : World} {b off : Nat} {cs : List Value} (h : CellsAt w b off cs) (hb : w'.heap[b]? = w.heap[b]?) : CellsAt w' b off cs :=
  fun j v hj => (World.cell?_of_block (a := ⟨b, off + j, none⟩) hb).trans (h j v hj)

theorem CellsAt.append {w : World} {b off : Nat} {c1 c2 : List Value} (h : CellsAt w b off (c1 ++ c2)) : CellsAt w b off c1 ∧ CellsAt w b (off + c1.length) c2 := by
  refine ⟨fun j v hj => h j v ?_, fun j v hj => ?_⟩
  · rw [List.getElem?_append_left (by have := (List.getElem?_eq_some_iff.1 hj).1; omega)]; exact hj
  · have := h (c1.length + j) v (by rw [List.getElem?_append_right (by omega)]; simpa using hj)
    rw [Nat.add_assoc]; exact this

theorem CellsAt.sub {w : World} {b off : Nat} {cs : List Value} (h : CellsAt w b off cs) (i n : Nat) : CellsAt w b (off + i) ((cs.drop i).take n) := by
  intro j v hj
  rw [List.getElem?_take] at hj
  split at hj
  · rw [List.getElem?_drop] at hj
    have := h (i + j) v hj
    rw [Nat.add_assoc]; exact this
  · cases hj

section
variable {α : Type} {R R' : List Value → α → Prop}

theorem RepL.mono (hr : ∀ cs x, R cs x → R' cs x) : ∀ (xs : List α) (cs : List Value), RepL R cs xs → RepL R' cs xs
  | [], _, h => h
  | _ :: xs, _, ⟨c1, c2, e, h1, h2⟩ => ⟨c1, c2, e, hr _ _ h1, RepL.mono hr xs c2 h2⟩

theorem RepL.length {sz : Nat} (hr : ∀ cs x, R cs x → cs.length = sz) : ∀ (xs : List α) (cs : List Value), RepL R cs xs → cs.length = xs.length * sz
  | [], cs, h => by have h' : cs = [] := h; simp [h']
  | _ :: xs, cs, ⟨c1, c2, e, h1, h2⟩ => by
    have := hr _ _ h1
    have := RepL.length hr xs c2 h2
    subst e
    rw [List.length_append, List.length_cons, Nat.add_mul]; omega

theorem RepL.one (hr : ∀ cs x, R cs x → ∀ v ∈ cs, v.oneCell' = true) : ∀ (xs : List α) (cs : List Value), RepL R cs xs → ∀ v ∈ cs, v.oneCell' = true
  | [], cs, h => by have h' : cs = [] := h; simp [h']
  | _ :: xs, cs, ⟨c1, c2, e, h1, h2⟩ => by
    subst e
    intro v hv
    rcases List.mem_append.1 hv with hv | hv
    · exact hr _ _ h1 v hv
    · exact RepL.one hr xs c2 h2 v hv

theorem RepL.append : ∀ (xs ys : List α) (c1 c2 : List Value), RepL R c1 xs → RepL R c2 ys → RepL R (c1 ++ c2) (xs ++ ys)
  | [], ys, c1, c2, h1, h2 => by have h' : c1 = [] := h1; subst h'; exact h2
  | x :: xs, ys, _, c2, ⟨a1, a2, e, h1, h1'⟩, h2 => by
    subst e
    exact ⟨a1, a2 ++ c2, by simp, h1, RepL.append xs ys a2 c2 h1' h2⟩

theorem RepL.split : ∀ (xs ys : List α) (cs : List Value), RepL R cs (xs ++ ys) → ∃ c1 c2, cs = c1 ++ c2 ∧ RepL R c1 xs ∧ RepL R c2 ys
  | [], _, cs, h => ⟨[], cs, rfl, rfl, h⟩
  | _ :: xs, ys, cs, ⟨a1, a2, e, h1, h2⟩ => by
    obtain ⟨c1, c2, e', h3, h4⟩ := RepL.split xs ys a2 h2
    exact ⟨a1 ++ c1, c2, by simp [e, e'], ⟨a1, c1, rfl, h1, h3⟩, h4⟩

theorem RepL.get {sz : Nat} (hr : ∀ cs x, R cs x → cs.length = sz) {xs : List α} {cs : List Value} (h : RepL R cs xs) {i : Nat} {x : α} (hx : xs[i]? = some x) :
    R ((cs.drop (i * sz)).take sz) x ∧ ((cs.drop (i * sz)).take sz).length = sz := by
  obtain ⟨hi, he⟩ := List.getElem?_eq_some_iff.1 hx
  have hsplit : xs = xs.take i ++ (x :: xs.drop (i + 1)) := by
    rw [← he, List.getElem_cons_drop, List.take_append_drop]
  rw [hsplit] at h
  obtain ⟨c1, c2, e, h1, a1, a2, e2, h2, h3⟩ := RepL.split _ _ _ h
  have l1 := RepL.length hr _ _ h1
  have l2 := hr _ _ h2
  rw [List.length_take, Nat.min_eq_left (by omega)] at l1
  subst e; subst e2
  have : (((c1 ++ (a1 ++ a2)).drop (i * sz)).take sz) = a1 := by
    rw [← l1, List.drop_left, ← l2, List.take_left]
  rw [this]; exact ⟨h2, l2⟩

theorem RepL.take {sz : Nat} (hr : ∀ cs x, R cs x → cs.length = sz) {xs : List α} {cs : List Value} (h : RepL R cs xs) (n : Nat) : RepL R (cs.take (n * sz)) (xs.take n) := by
  by_cases hn : n ≤ xs.length
  · rw [← List.take_append_drop n xs] at h
    obtain ⟨c1, c2, e, h1, h2⟩ := RepL.split _ _ _ h
    have l1 := RepL.length hr _ _ h1
    rw [List.length_take, Nat.min_eq_left hn] at l1
    subst e
    rw [← l1, List.take_left]; exact h1
  · have l := RepL.length hr _ _ h
    have hle : cs.length ≤ n * sz := by rw [l]; exact Nat.mul_le_mul_right _ (by omega)
    rw [List.take_of_length_le hle, List.take_of_length_le (by omega)]; exact h

theorem RepL.drop {sz : Nat} (hr : ∀ cs x, R cs x → cs.length = sz) {xs : List α} {cs : List Value} (h : RepL R cs xs) (n : Nat) : RepL R (cs.drop (n * sz)) (xs.drop n) := by
  by_cases hn : n ≤ xs.length
  · rw [← List.take_append_drop n xs] at h
    obtain ⟨c1, c2, e, h1, h2⟩ := RepL.split _ _ _ h
    have l1 := RepL.length hr _ _ h1
    rw [List.length_take, Nat.min_eq_left hn] at l1
    subst e
    rw [← l1, List.drop_left]; exact h2
  · have l := RepL.length hr _ _ h
    have hle : cs.length ≤ n * sz := by rw [l]; exact Nat.mul_le_mul_right _ (by omega)
    rw [List.drop_eq_nil_of_le hle, List.drop_eq_nil_of_le (by omega)]; rfl

theorem RepL.set {sz : Nat} (hr : ∀ cs x, R cs x → cs.length = sz) {xs : List α} {cs : List Value} (h : RepL R cs xs) {i : Nat} (hi : i < xs.length) {y : α} {ds : List Value} (hy : R ds y) :
    RepL R (cs.take (i * sz) ++ ds ++ cs.drop ((i + 1) * sz)) (xs.set i y) := by
  have e : xs.set i y = xs.take i ++ (y :: xs.drop (i + 1)) := by
    rw [List.set_eq_take_append_cons_drop, if_pos hi]
  rw [e, List.append_assoc]
  exact RepL.append _ _ _ _ (RepL.take hr h i) ⟨ds, _, rfl, hy, RepL.drop hr h (i + 1)⟩

end

theorem RepD.length {w : World} {im : Nat → Prop} : ∀ (t : Ty) (cs : List Value) (x : t.den), RepD w im t cs x → cs.length = t.size
  | .int _, _, _, h => by have h' := h; simp only [RepD] at h'; subst h'; rfl
  | .bool, _, _, h => by have h' := h; simp only [RepD] at h'; subst h'; rfl
  | .str, _, _, h => by have h' := h; simp only [RepD] at h'; subst h'; rfl
  | .flt _, _, _, ⟨_, h, _⟩ => by subst h; rfl
  | .slice _, _, _, ⟨_, _, h, _⟩ => by subst h; rfl
  | .unit, _, _, h => by have h' := h; simp only [RepD] at h'; subst h'; rfl
  | .pair a b, _, _, ⟨c1, c2, h, h1, h2⟩ => by
    subst h
    rw [List.length_append, RepD.length a _ _ h1, RepD.length b _ _ h2]; rfl
  | .arr n e, _, _, ⟨hn, h⟩ => by
    rw [RepL.length (RepD.length e) _ _ h, hn]; rfl

theorem RepD.one {w : World} {im : Nat → Prop} : ∀ (t : Ty) (cs : List Value) (x : t.den), RepD w im t cs x → ∀ v ∈ cs, v.oneCell' = true
  | .int _, _, _, h => by have h' := h; simp only [RepD] at h'; subst h'; simp [Value.oneCell']
  | .bool, _, _, h => by have h' := h; simp only [RepD] at h'; subst h'; simp [Value.oneCell']
  | .str, _, _, h => by have h' := h; simp only [RepD] at h'; subst h'; simp [Value.oneCell']
  | .flt _, _, _, ⟨_, h, _⟩ => by subst h; simp [Value.oneCell']
  | .slice _, _, _, ⟨_, _, h, _⟩ => by subst h; simp [Value.oneCell']
  | .unit, _, _, h => by have h' := h; simp only [RepD] at h'; subst h'; simp
  | .pair a b, _, _, ⟨c1, c2, h, h1, h2⟩ => by
    subst h
    intro v hv
    rcases List.mem_append.1 hv with hv | hv
    · exact RepD.one a _ _ h1 v hv
    · exact RepD.one b _ _ h2 v hv
  | .arr n e, _, _, ⟨hn, h⟩ => RepL.one (RepD.one e) _ _ h

theorem RepD.mono {w w' : World} {im im' : Nat → Prop} (hi : ∀ b, im b → im' b) (hb : ∀ b, im b → w'.heap[b]? = w.heap[b]?) :
    ∀ (t : Ty) (cs : List Value) (x : t.den), RepD w im t cs x → RepD w' im' t cs x
  | .int _, _, _, h => h
  | .bool, _, _, h => h
  | .str, _, _, h => h
  | .flt _, _, _, h => h
  | .slice e, _, xs, ⟨a, cap, h, h1, h2, h0, h3⟩ => by
    refine ⟨a, cap, h, h1, h2, h0, ?_⟩
    cases a with
    | none => exact h3
    | some ad =>
      rcases h3 with h3 | ⟨hs, him, cs, hc, hl⟩
      · exact .inl h3
      · exact .inr ⟨hs, hi _ him, cs, hc.mono (hb _ him), RepL.mono (RepD.mono hi hb e) _ _ hl⟩
  | .unit, _, _, h => h
  | .pair a b, _, _, ⟨c1, c2, h, h1, h2⟩ => ⟨c1, c2, h, RepD.mono hi hb a _ _ h1, RepD.mono hi hb b _ _ h2⟩
  | .arr n e, _, _, ⟨hn, h⟩ => ⟨hn, RepL.mono (RepD.mono hi hb e) _ _ h⟩

/-- the value whose cells they are -/
def Ty.val (t : Ty) (cs : List Value) : Value := if t.isAgg then .agg cs.toArray else cs.headD undef

end Go.Vm
namespace Go.Vm

inductive AV where
  | undef
  | d (t : Ty) (x : t.den)
  | ip (t : Ty) (x : t.den)
  | op (o : Nat) (p : List Nat) (off : Nat)
  | os (o : Nat) (n : Nat)
  | oe (o : Nat) (n : Nat) (i : Nat)
  | ow (o : Nat) (n : Nat) (i : Nat) (l : Nat)
  | nils
  | emp
  | pr (a b : AV)
  | tup (l : List AV)
  | fn (f : Fn) (first cap : List AV)
  | nilfn
  | iface (t : TypeId) (v : AV)
  | nilif
  | nilp
  | ref (o : Nat)

/-- a way out of a round -/
inductive Jmp where
  | ret
  | exit (id : Nat)
def Jmp.code : Jmp → Code
  | .ret => .ret
  | .exit id => .exit id

inductive LSta where
  | ready
  | busy
  | done (j : Jmp)
  | over

structure LoopC where
  key : Nat
  ps : Array Tmp
  assign : Code
  body : Code
  n : Nat

/-- a map with strings for keys; the record of a loop over a function -/
inductive ARec where
  | map (l : List (List UInt8 × AV))
  | loop (lc : LoopC) (fr : List (Nat × AV)) (st : LSta)

def ARec.isMap : ARec → Bool
  | .map _ => true
  | _ => false
def ARec.val (r : ARec) (b : Nat) : Value := bif r.isMap then .map (some b) else .func (.yield b) #[] #[]

inductive AObj where
  | box (v : AV)
  | arr (T : TypeId) (e : Ty) (v : Nat) (fz : Bool) (xs : List e.den)
  | rc (r : ARec)

inductive Pl where
  | none
  | at (b : Nat)
  | row (b cap : Nat)
  | nil (a : Option Addr)
  | fz (b cap : Nat)

def Pl.blk : Pl → Option Nat
  | .at b => some b
  | .row b _ => some b
  | _ => Option.none

def AV.isAgg : AV → Bool
  | .d t _ => t.isAgg
  | .pr _ _ => true
  | _ => false

def vIsAgg : Value → Bool
  | .agg _ => true
  | _ => false

abbrev Hp := Nat → Option AObj
abbrev Mu := Nat → Pl

def PlSlice : Pl → Nat → Value → Prop
  | .nil a, _, v => v = .slice a 0 0
  | .row b cap, n, v => v = .slice (some ⟨b, 0, none⟩) n cap
  | .fz b cap, n, v => v = .slice (some ⟨b, 0, none⟩) n cap
  | _, _, _ => False

mutual
def RepA (w : World) (im : Nat → Prop) (μ : Mu) (hp : Hp) : AV → List Value → Prop
  | .undef, _ => False
  | .d t x, cs => RepD w im t cs x
  | .ip t x, cs => ∃ b off, cs = [.pointer (some ⟨b, off, none⟩)] ∧ im b ∧ ∃ ds, CellsAt w b off ds ∧ RepD w im t ds x
  | .op o _ off, cs => ∃ b v, μ o = .at b ∧ hp o = some (.box v) ∧ cs = [.pointer (some ⟨b, off, none⟩)]
  | .os o n, cs => ∃ T e m z xs, hp o = some (.arr T e m z xs) ∧ n ≤ m ∧ ∃ v, cs = [v] ∧ v.oneCell' = true ∧ (n = m → PlSlice (μ o) xs.length v)
  | .oe o n i, cs => ∃ T e m z xs, hp o = some (.arr T e m z xs) ∧ n ≤ m ∧ ∃ v, cs = [v] ∧ v.oneCell' = true ∧ (n = m → ∃ b cap, (μ o = .row b cap ∨ μ o = .fz b cap) ∧ v = .pointer (some ⟨b, i * e.size, none⟩))
  | .ow o n i l, cs => ∃ T e m z xs, hp o = some (.arr T e m z xs) ∧ n ≤ m ∧ ∃ v, cs = [v] ∧ v.oneCell' = true ∧ (n = m → ∃ b cap, (μ o = .row b cap ∨ μ o = .fz b cap) ∧ v = .slice (some ⟨b, i * e.size, none⟩) l (cap - i))
  | .nils, cs => cs = [.slice none 0 0]
  | .emp, cs => ∃ a, cs = [.slice a 0 0]
  | .pr a b, cs => ∃ c1 c2, cs = c1 ++ c2 ∧ RepA w im μ hp a c1 ∧ RepA w im μ hp b c2
  | .tup _, _ => False
  | .fn f first cap, cs => ∃ vs us : List Value, cs = [.func f vs.toArray us.toArray] ∧ RepFs w im μ hp first vs ∧ RepFs w im μ hp cap us
  | .nilfn, cs => cs = [.nilFunc]
  | .iface t v, cs => ∃ u, cs = [.iface t u] ∧ RepA w im μ hp v u.cells.toList ∧ vIsAgg u = v.isAgg
  | .nilif, cs => cs = [.nilIface]
  | .nilp, cs => cs = [.pointer none]
  | .ref o, cs => ∃ b r, μ o = .at b ∧ hp o = some (.rc r) ∧ cs = [r.val b]
def RepFs (w : World) (im : Nat → Prop) (μ : Mu) (hp : Hp) : List AV → List Value → Prop
  | [], vs => vs = []
  | a :: l, vs => ∃ v us, vs = v :: us ∧ RepA w im μ hp a v.cells.toList ∧ vIsAgg v = a.isAgg ∧ RepFs w im μ hp l us
end

def RepV (w : World) (im : Nat → Prop) (μ : Mu) (hp : Hp) (a : AV) (v : Value) : Prop :=
  match a with
  | .undef => True
  | .tup l => ∃ vs : List Value, v = .tuple vs.toArray ∧ RepFs w im μ hp l vs
  | a => RepA w im μ hp a v.cells.toList ∧ vIsAgg v = a.isAgg

def LSta.ok (r : Loop) : LSta → Prop
  | .ready => r.state = .ready ∧ r.pending = none
  | .busy => r.state = .busy
  | .done j => r.state = .done ∧ r.pending = some j.code
  | .over => True

def RepEs (w : World) (im : Nat → Prop) (μ : Mu) (hp : Hp) : List (List UInt8 × AV) → List MapEntry → Prop
  | [], es => es = []
  | (k, a) :: l, es => ∃ e es', es = e :: es' ∧ e.key = .string ⟨k.toArray⟩ ∧ RepA w im μ hp a e.val.cells.toList ∧ vIsAgg e.val = a.isAgg ∧ RepEs w im μ hp l es'

def RepR (w : World) (im : Nat → Prop) (μ : Mu) (hp : Hp) : ARec → Obj → Prop
  | .map l, x => ∃ es clock, x = .map es clock ∧ RepEs w im μ hp l es.toList
  | .loop lc fr st, x => ∃ r : Loop, x = .loop r ∧ r.params = lc.ps ∧ r.assign = lc.assign ∧ r.body = lc.body ∧ r.tmps.size = lc.n ∧ (∀ p ∈ fr, RepV w im μ hp p.2 (r.tmps.getD p.1 Go.undef)) ∧ st.ok r

def RepO (w : World) (im : Nat → Prop) (μ : Mu) (hp : Hp) (pl : Pl) : AObj → Prop
  | .box v => ∃ b cells T, pl = .at b ∧ w.heap[b]? = some (.cells cells T (0, 0)) ∧ RepA w im μ hp v cells.toList
  | .arr T e _ z xs => (∃ a, pl = .nil a ∧ xs = []) ∨ (z = false ∧ ∃ b cap cells, pl = .row b cap ∧ w.heap[b]? = some (.cells cells T (0, 0)) ∧ xs.length ≤ cap ∧ cap ≤ maxLen ∧ cells.size = cap * e.size ∧
      RepL (RepD w im e) (cells.toList.take (xs.length * e.size)) xs) ∨
      (z = true ∧ ∃ b cap cs, pl = .fz b cap ∧ im b ∧ xs.length ≤ cap ∧ cap ≤ maxLen ∧ CellsAt w b 0 cs ∧ RepL (RepD w im e) cs xs)
  | .rc r => ∃ b x, pl = .at b ∧ w.heap[b]? = some x ∧ RepR w im μ hp r x

/-- how an object may turn -/
def ObEv : AObj → Pl → AObj → Pl → Prop
  | .box _, p, .box _, p' => p' = p
  | .rc r, p, .rc r', p' => p' = p ∧ r'.isMap = r.isMap
  | .arr T e m _ xs, p, ob', p' => ∃ (m' : Nat) (z' : Bool) (ys : List e.den), ob' = .arr T e m' z' ys ∧ ((m' = m ∧ ys.length = xs.length ∧ (p' = p ∨ ∃ b cap, p = .row b cap ∧ p' = .fz b cap)) ∨ m < m')
  | _, _, _, _ => False

structure Ev (w : World) (im : Nat → Prop) (μ : Mu) (hp : Hp) (w' : World) (im' : Nat → Prop) (μ' : Mu) (hp' : Hp) : Prop where
  fim : ∀ b, im b → im' b
  fheap : ∀ b, im b → w'.heap[b]? = w.heap[b]?
  fob : ∀ o ob, hp o = some ob → ∃ ob', hp' o = some ob' ∧ ObEv ob (μ o) ob' (μ' o)

theorem ObEv.refl (ob : AObj) (p : Pl) : ObEv ob p ob p := by
  cases ob with
  | box v => exact rfl
  | rc r => exact ⟨rfl, rfl⟩
  | arr T e m z xs => exact ⟨m, z, xs, rfl, .inl ⟨rfl, rfl, .inl rfl⟩⟩

theorem ObEv.trans {a b c : AObj} {p q r : Pl} (h : ObEv a p b q) (h' : ObEv b q c r) : ObEv a p c r := by
  cases a with
  | box v =>
    cases b with
    | arr _ _ _ _ _ => exact h.elim
    | rc _ => exact h.elim
    | box u =>
      cases c with
      | arr _ _ _ _ _ => exact h'.elim
      | rc _ => exact h'.elim
      | box x =>
        have h1 : q = p := h
        have h2 : r = q := h'
        show r = p
        rw [h2, h1]
  | rc v =>
    cases b with
    | arr _ _ _ _ _ => exact h.elim
    | box _ => exact h.elim
    | rc u =>
      cases c with
      | arr _ _ _ _ _ => exact h'.elim
      | box _ => exact h'.elim
      | rc x =>
        obtain ⟨h1, h2⟩ := h
        obtain ⟨h3, h4⟩ := h'
        exact ⟨h3.trans h1, h4.trans h2⟩
  | arr T e m z xs =>
    obtain ⟨m1, z1, ys, rfl, h⟩ := h
    obtain ⟨m2, z2, zs, rfl, h'⟩ := h'
    refine ⟨m2, z2, zs, rfl, ?_⟩
    rcases h with ⟨h1, h2, h3⟩ | h
    · rcases h' with ⟨g1, g2, g3⟩ | h'
      · refine .inl ⟨by omega, by omega, ?_⟩
        rcases h3 with rfl | ⟨b, cap, h3, h4⟩
        · exact g3
        · rcases g3 with rfl | ⟨b', cap', g3, g4⟩
          · exact .inr ⟨b, cap, h3, h4⟩
          · rw [h4] at g3; cases g3
      · exact .inr (by omega)
    · rcases h' with ⟨g1, _, _⟩ | h' <;> exact .inr (by omega)

section
variable {w w' : World} {im im' : Nat → Prop} {μ μ' : Mu} {hp hp' : Hp}

mutual
theorem RepA.ev (h : Ev w im μ hp w' im' μ' hp') : ∀ (a : AV) (cs : List Value), RepA w im μ hp a cs → RepA w' im' μ' hp' a cs
  | .undef, _, hr => by simp only [RepA] at hr
  | .d t x, cs, hr => by simp only [RepA] at hr ⊢; exact hr.mono h.fim h.fheap
  | .ip t x, cs, hr => by
    simp only [RepA] at hr ⊢
    obtain ⟨b, off, e, hb, ds, hc, hd⟩ := hr
    exact ⟨b, off, e, h.fim _ hb, ds, hc.mono (h.fheap _ hb), hd.mono h.fim h.fheap⟩
  | .op o p off, cs, hr => by
    simp only [RepA] at hr ⊢
    obtain ⟨b, v, hm, ho, e⟩ := hr
    obtain ⟨ob', ho', hev⟩ := h.fob o _ ho
    cases ob' with
    | box v' => exact ⟨b, v', by rw [show μ' o = μ o from hev]; exact hm, ho', e⟩
    | arr _ _ _ _ _ => exact hev.elim
    | rc _ => exact hev.elim
  | .os o n, cs, hr => by
    simp only [RepA] at hr ⊢
    obtain ⟨T, e, m, z, xs, ho, hn, v, hv, h1, hp⟩ := hr
    obtain ⟨ob', ho', m', z', ys, rfl, hev⟩ := h.fob o _ ho
    refine ⟨T, e, m', z', ys, ho', ?_, v, hv, h1, fun hy => ?_⟩
    · rcases hev with ⟨hl, _⟩ | hl <;> omega
    · rcases hev with ⟨hl, hl2, hpl | ⟨b, cap, h2, h3⟩⟩ | hl
      · rw [hpl, hl2]; exact hp (by omega)
      · have := hp (by omega)
        rw [h2] at this
        rw [h3, hl2]; exact this
      · omega
  | .oe o n i, cs, hr => by
    simp only [RepA] at hr ⊢
    obtain ⟨T, e, m, z, xs, ho, hn, v, hv, h1, hp⟩ := hr
    obtain ⟨ob', ho', m', z', ys, rfl, hev⟩ := h.fob o _ ho
    refine ⟨T, e, m', z', ys, ho', ?_, v, hv, h1, fun hy => ?_⟩
    · rcases hev with ⟨hl, _⟩ | hl <;> omega
    · rcases hev with ⟨hl, hl2, hpl | ⟨b, cap, h2, h3⟩⟩ | hl
      · rw [hpl]; exact hp (by omega)
      · obtain ⟨b', cap', h4, h5⟩ := hp (by omega)
        rw [h2] at h4
        obtain ⟨rfl, rfl⟩ : b = b' ∧ cap = cap' := by rcases h4 with h4 | h4 <;> cases h4; exact ⟨rfl, rfl⟩
        exact ⟨b, cap, .inr h3, h5⟩
      · omega
  | .ow o n i l, cs, hr => by
    simp only [RepA] at hr ⊢
    obtain ⟨T, e, m, z, xs, ho, hn, v, hv, h1, hp⟩ := hr
    obtain ⟨ob', ho', m', z', ys, rfl, hev⟩ := h.fob o _ ho
    refine ⟨T, e, m', z', ys, ho', ?_, v, hv, h1, fun hy => ?_⟩
    · rcases hev with ⟨hl, _⟩ | hl <;> omega
    · rcases hev with ⟨hl, hl2, hpl | ⟨b, cap, h2, h3⟩⟩ | hl
      · rw [hpl]; exact hp (by omega)
      · obtain ⟨b', cap', h4, h5⟩ := hp (by omega)
        rw [h2] at h4
        obtain ⟨rfl, rfl⟩ : b = b' ∧ cap = cap' := by rcases h4 with h4 | h4 <;> cases h4; exact ⟨rfl, rfl⟩
        exact ⟨b, cap, .inr h3, h5⟩
      · omega
  | .nils, cs, hr => by simp only [RepA] at hr ⊢; exact hr
  | .emp, cs, hr => by simp only [RepA] at hr ⊢; exact hr
  | .pr a b, cs, hr => by
    simp only [RepA] at hr ⊢
    obtain ⟨c1, c2, e, h1, h2⟩ := hr
    exact ⟨c1, c2, e, RepA.ev h a c1 h1, RepA.ev h b c2 h2⟩
  | .tup _, _, hr => by simp only [RepA] at hr
  | .fn f first cap, cs, hr => by
    simp only [RepA] at hr ⊢
    obtain ⟨vs, us, e, h1, h2⟩ := hr
    exact ⟨vs, us, e, RepFs.ev h first vs h1, RepFs.ev h cap us h2⟩
  | .nilfn, cs, hr => by simp only [RepA] at hr ⊢; exact hr
  | .iface t v, cs, hr => by
    simp only [RepA] at hr ⊢
    obtain ⟨u, e, h1, h2⟩ := hr
    exact ⟨u, e, RepA.ev h v _ h1, h2⟩
  | .nilif, cs, hr => by simp only [RepA] at hr ⊢; exact hr
  | .nilp, cs, hr => by simp only [RepA] at hr ⊢; exact hr
  | .ref o, cs, hr => by
    simp only [RepA] at hr ⊢
    obtain ⟨b, r, hm, ho, e⟩ := hr
    obtain ⟨ob', ho', hev⟩ := h.fob o _ ho
    cases ob' with
    | rc r' => exact ⟨b, r', by rw [show μ' o = μ o from hev.1]; exact hm, ho', by rw [e]; simp only [ARec.val, hev.2]⟩
    | arr _ _ _ _ _ => exact hev.elim
    | box _ => exact hev.elim
theorem RepFs.ev (h : Ev w im μ hp w' im' μ' hp') : ∀ (l : List AV) (vs : List Value), RepFs w im μ hp l vs → RepFs w' im' μ' hp' l vs
  | [], vs, hr => by simp only [RepFs] at hr ⊢; exact hr
  | a :: l, vs, hr => by
    simp only [RepFs] at hr ⊢
    obtain ⟨v, us, e, h1, h2, h3⟩ := hr
    exact ⟨v, us, e, RepA.ev h a _ h1, h2, RepFs.ev h l us h3⟩
end

theorem RepV.ev (h : Ev w im μ hp w' im' μ' hp') {a : AV} {v : Value} (hr : RepV w im μ hp a v) : RepV w' im' μ' hp' a v := by
  cases a <;> first
    | trivial
    | (obtain ⟨vs, e, h1⟩ := hr; exact ⟨vs, e, RepFs.ev h _ _ h1⟩)
    | exact ⟨RepA.ev h _ _ hr.1, hr.2⟩

theorem RepA.one : ∀ (a : AV) (cs : List Value), RepA w im μ hp a cs → ∀ v ∈ cs, v.oneCell' = true
  | .undef, _, hr => by simp only [RepA] at hr
  | .d t x, cs, hr => by simp only [RepA] at hr; exact hr.one
  | .ip t x, cs, hr => by
    simp only [RepA] at hr
    obtain ⟨b, off, rfl, _⟩ := hr; simp [Value.oneCell']
  | .op o p off, cs, hr => by
    simp only [RepA] at hr
    obtain ⟨b, v, _, _, rfl⟩ := hr; simp [Value.oneCell']
  | .os o n, cs, hr => by
    simp only [RepA] at hr
    obtain ⟨T, e, m, z, xs, _, _, v, rfl, h1, _⟩ := hr; simpa using h1
  | .oe o n i, cs, hr => by
    simp only [RepA] at hr
    obtain ⟨T, e, m, z, xs, _, _, v, rfl, h1, _⟩ := hr; simpa using h1
  | .ow o n i l, cs, hr => by
    simp only [RepA] at hr
    obtain ⟨T, e, m, z, xs, _, _, v, rfl, h1, _⟩ := hr; simpa using h1
  | .nils, cs, hr => by simp only [RepA] at hr; subst hr; simp [Value.oneCell']
  | .emp, cs, hr => by
    simp only [RepA] at hr
    obtain ⟨a, rfl⟩ := hr; simp [Value.oneCell']
  | .pr a b, cs, hr => by
    simp only [RepA] at hr
    obtain ⟨c1, c2, rfl, h1, h2⟩ := hr
    intro v hv
    rcases List.mem_append.1 hv with hv | hv
    · exact RepA.one a c1 h1 v hv
    · exact RepA.one b c2 h2 v hv
  | .tup _, _, hr => by simp only [RepA] at hr
  | .fn f first cap, cs, hr => by
    simp only [RepA] at hr
    obtain ⟨vs, us, rfl, _⟩ := hr; simp [Value.oneCell']
  | .nilfn, cs, hr => by simp only [RepA] at hr; subst hr; simp [Value.oneCell']
  | .iface t v, cs, hr => by
    simp only [RepA] at hr
    obtain ⟨u, rfl, _⟩ := hr; simp [Value.oneCell']
  | .nilif, cs, hr => by simp only [RepA] at hr; subst hr; simp [Value.oneCell']
  | .nilp, cs, hr => by simp only [RepA] at hr; subst hr; simp [Value.oneCell']
  | .ref o, cs, hr => by
    simp only [RepA] at hr
    obtain ⟨b, r, _, _, rfl⟩ := hr
    intro v hv
    simp only [List.mem_singleton] at hv
    subst hv
    unfold ARec.val
    cases r.isMap <;> rfl

theorem RepEs.ev (h : Ev w im μ hp w' im' μ' hp') : ∀ (l : List (List UInt8 × AV)) (es : List MapEntry), RepEs w im μ hp l es → RepEs w' im' μ' hp' l es
  | [], es, hr => hr
  | (k, a) :: l, es, hr => by
    obtain ⟨e, es', h1, h2, h3, h4, h5⟩ := hr
    exact ⟨e, es', h1, h2, RepA.ev h _ _ h3, h4, RepEs.ev h l es' h5⟩
theorem RepR.ev (h : Ev w im μ hp w' im' μ' hp') {r : ARec} {x : Obj} (hr : RepR w im μ hp r x) : RepR w' im' μ' hp' r x := by
  cases r with
  | map l =>
    obtain ⟨es, clock, h1, h2⟩ := hr
    exact ⟨es, clock, h1, RepEs.ev h _ _ h2⟩
  | loop lc fr st =>
    obtain ⟨r, h1, h2, h3, h4, h5, h6, h7⟩ := hr
    exact ⟨r, h1, h2, h3, h4, h5, fun p hp => RepV.ev h (h6 p hp), h7⟩

theorem RepO.ev (h : Ev w im μ hp w' im' μ' hp') {pl : Pl} {ob : AObj} (hr : RepO w im μ hp pl ob) (hb : ∀ b, pl.blk = some b → w'.heap[b]? = w.heap[b]?) : RepO w' im' μ' hp' pl ob := by
  cases ob with
  | box v =>
    obtain ⟨b, cells, T, rfl, hc, hv⟩ := hr
    exact ⟨b, cells, T, rfl, (hb b rfl).trans hc, RepA.ev h _ _ hv⟩
  | rc r =>
    obtain ⟨b, x, rfl, hc, hv⟩ := hr
    exact ⟨b, x, rfl, (hb b rfl).trans hc, RepR.ev h hv⟩
  | arr T e m z xs =>
    rcases hr with ⟨a, rfl, rfl⟩ | ⟨hz, b, cap, cells, rfl, hc, h1, h2, h3, h4⟩ | ⟨hz, b, cap, cs, rfl, hi, h1, h2, h3, h4⟩
    · exact .inl ⟨a, rfl, rfl⟩
    · exact .inr (.inl ⟨hz, b, cap, cells, rfl, (hb b rfl).trans hc, h1, h2, h3, RepL.mono (RepD.mono h.fim h.fheap e) _ _ h4⟩)
    · exact .inr (.inr ⟨hz, b, cap, cs, rfl, h.fim _ hi, h1, h2, h3.mono (h.fheap _ hi), RepL.mono (RepD.mono h.fim h.fheap e) _ _ h4⟩)
end

structure ASt where
  fr : Nat → AV
  hp : Hp

/-- what stands fixed while a body runs: the world at the entry, the immutable blocks then, the blocks of objects that were handed in, the number of slots, what is deferred, the listed package variables -/
structure Ctx where
  W : World
  im : Nat → Prop
  own : Nat → Prop
  n : Nat
  defers : List Deferred
  Γ : Nat → Option AV
  h0 : Hp
  μ0 : Mu
  rd : Option Nat
  nm : Bool

def mark (r : Nat) : Deferred := { target := .collected r, args := #[] }

/-- the blocks of loops over functions, for what their rounds defer: nothing -/
structure Marks (C : Ctx) (im : Nat → Prop) (μ : Mu) (w : World) (rs : List Nat) : Prop where
  nodup : rs.Nodup
  none : C.nm = true → rs = []
  all : ∀ r ∈ rs, C.W.heap.size ≤ r ∧ r < w.heap.size ∧ ¬ im r ∧ (∀ o, (μ o).blk ≠ some r) ∧ w.heap[r]? = some (.deferred (some []))

structure Inv (C : Ctx) (im : Nat → Prop) (μ : Mu) (s : ASt) (a : Act) (w : World) : Prop where
  os : w.os = C.W.os
  tape : w.tape = C.W.tape
  output : w.output = C.W.output
  grow : C.W.heap.size ≤ w.heap.size
  old : ∀ b, b < C.W.heap.size → ¬ C.own b → w.heap[b]? = C.W.heap[b]?
  imC : ∀ b, C.im b → im b
  imNew : ∀ b, im b → C.im b ∨ C.own b ∨ C.W.heap.size ≤ b
  imLt : ∀ b, im b → b < w.heap.size
  sep : ∀ o b, (μ o).blk = some b → ¬ im b ∧ b < w.heap.size ∧ (C.own b ∨ C.W.heap.size ≤ b)
  inj : ∀ o o' b, (μ o).blk = some b → (μ o').blk = some b → o = o'
  dom : ∀ o, s.hp o = none → μ o = .none
  obj : ∀ o ob, s.hp o = some ob → RepO w im μ s.hp (μ o) ob
  glob : ∀ g v, C.Γ g = some v → RepV w im μ s.hp v (.pointer (some ⟨g, 0, none⟩))
  fr : ∀ x, RepV w im μ s.hp (s.fr x) (a.tmps.getD x Go.undef)
  size : a.tmps.size = C.n
  defers : ∃ rs, a.defers = rs.map mark ++ C.defers ∧ Marks C im μ w rs
  pin : ∀ o ob, C.h0 o = some ob → ∃ ob', s.hp o = some ob' ∧ ObEv ob (C.μ0 o) ob' (μ o)

theorem Marks.of_heap {C : Ctx} {im : Nat → Prop} {μ : Mu} {w w' : World} {rs : List Nat} (h : Marks C im μ w rs) (hh : w'.heap = w.heap) : Marks C im μ w' rs :=
  ⟨h.nodup, h.none, fun r hr => by rw [hh]; exact h.all r hr⟩

def Rel (C : Ctx) (s : ASt) (a : Act) (w : World) : Prop := ∃ im μ, Inv C im μ s a w

def putF (f : Nat → AV) (d : Nat) (v : AV) : Nat → AV := fun x => bif Nat.beq x d then v else f x
def ASt.put (s : ASt) (d : Option Nat) (v : AV) : ASt :=
  match d with
  | some d => { s with fr := putF s.fr d v }
  | none => s

theorem putF_same (f : Nat → AV) (d : Nat) (v : AV) : putF f d v d = v := by simp [putF]
theorem putF_ne (f : Nat → AV) {d x : Nat} (v : AV) (h : x ≠ d) : putF f d v x = f x := by
  have : Nat.beq x d = false := by
    rw [← Bool.not_eq_true]; intro hb; exact h (Nat.eq_of_beq_eq_true hb)
  simp [putF, this]

/-- from one state to the next: the world may have turned, one slot is written -/
theorem Inv.step {C : Ctx} {im im' : Nat → Prop} {μ μ' : Mu} {s : ASt} {hp' : Hp} {a : Act} {w w' : World} (h : Inv C im μ s a w)
    (ev : Ev w im μ s.hp w' im' μ' hp')
    (hos : w'.os = w.os) (htape : w'.tape = w.tape) (hout : w'.output = w.output) (hgrow : w.heap.size ≤ w'.heap.size)
    (hold : ∀ b, b < w.heap.size → (∀ o, (μ o).blk ≠ some b) → w'.heap[b]? = w.heap[b]?)
    (himNew : ∀ b, im' b → im b ∨ (∃ o, (μ o).blk = some b) ∨ w.heap.size ≤ b) (himLt : ∀ b, im' b → b < w'.heap.size)
    (hsep : ∀ o b, (μ' o).blk = some b → ¬ im' b ∧ b < w'.heap.size ∧ ((∃ o0, (μ o0).blk = some b) ∨ w.heap.size ≤ b))
    (hinj : ∀ o o' b, (μ' o).blk = some b → (μ' o').blk = some b → o = o')
    (hdom : ∀ o, hp' o = none → μ' o = .none)
    (hobj : ∀ o ob, hp' o = some ob → RepO w' im' μ' hp' (μ' o) ob)
    (dst : Option Nat) (hd : ∀ d, dst = some d → d < C.n) (av : AV) (v : Value) (hv : RepV w' im' μ' hp' av v) :
    Inv C im' μ' ⟨(s.put dst av).fr, hp'⟩ (a.put dst v) w' := by
  refine ⟨hos.trans h.os, htape.trans h.tape, hout.trans h.output, Nat.le_trans h.grow hgrow, ?_, fun b hb => ev.fim b (h.imC b hb), ?_, himLt, ?_, hinj, hdom, hobj, ?_, ?_, ?_, ?_, ?_⟩
  · intro b hb hown
    rw [hold b (Nat.lt_of_lt_of_le hb h.grow) (fun o ho => ?_), h.old b hb hown]
    rcases (h.sep o b ho).2.2 with h1 | h1
    · exact hown h1
    · omega
  · intro b hb
    rcases himNew b hb with h1 | ⟨o, h1⟩ | h1
    · exact h.imNew b h1
    · exact .inr (h.sep o b h1).2.2
    · exact .inr (.inr (Nat.le_trans h.grow h1))
  · intro o b ho
    obtain ⟨h1, h2, h3⟩ := hsep o b ho
    refine ⟨h1, h2, ?_⟩
    rcases h3 with ⟨o0, h3⟩ | h3
    · exact (h.sep o0 b h3).2.2
    · exact .inr (Nat.le_trans h.grow h3)
  · intro g gv hg
    exact (h.glob g gv hg).ev ev
  · intro x
    cases dst with
    | none => exact (h.fr x).ev ev
    | some d =>
      by_cases hx : x = d
      · subst hx
        have hput : ((s.put (some x) av).fr) x = av := putF_same _ _ _
        show RepV w' im' μ' hp' (((s.put (some x) av).fr) x) _
        rw [hput]
        have hlt : x < a.tmps.size := by rw [h.size]; exact hd x rfl
        simpa [Act.put, hlt] using hv
      · show RepV w' im' μ' hp' (putF s.fr d av x) _
        rw [putF_ne _ _ hx]
        have : (a.put (some d) v).tmps.getD x Go.undef = a.tmps.getD x Go.undef := by
          simp [Act.put, Array.getD_eq_getD_getElem?, Array.getElem?_setIfInBounds_ne (Ne.symm hx)]
        rw [this]
        exact (h.fr x).ev ev
  · cases dst <;> simp [Act.put, h.size]
  · obtain ⟨rs, h1, h2⟩ := h.defers
    refine ⟨rs, by cases dst <;> simp [Act.put, h1], h2.nodup, h2.none, fun r hr => ?_⟩
    obtain ⟨g1, g2, g3, g4, g5⟩ := h2.all r hr
    refine ⟨g1, Nat.lt_of_lt_of_le g2 hgrow, fun hi => ?_, fun o ho => ?_, (hold r g2 g4).trans g5⟩
    · rcases himNew r hi with h | ⟨o, h⟩ | h
      · exact g3 h
      · exact g4 o h
      · omega
    · rcases (hsep o r ho).2.2 with ⟨o0, h⟩ | h
      · exact g4 o0 h
      · omega
  · intro o ob ho
    obtain ⟨ob1, h1, h2⟩ := h.pin o ob ho
    obtain ⟨ob2, h3, h4⟩ := ev.fob o _ h1
    exact ⟨ob2, h3, h2.trans h4⟩

end Go.Vm
namespace Go.Vm

def constAV : Value → AV
  | .int k n => .d (.int k) n
  | .bool b => .d .bool b
  | .string s => .d .str s.data.toList
  | .float k b => .d (.flt k) (canonF k b)
  | .slice none 0 0 => .nils
  | .pointer none => .nilp
  | .nilFunc => .nilfn
  | .nilIface => .nilif
  | _ => .undef

def ASt.ev (C : Ctx) (s : ASt) : Operand → AV
  | .tmp t => s.fr t
  | .const v => constAV v
  | .global g => (C.Γ g).getD .undef
  | .func f => .fn (.func f) [] []

theorem constAV_rep (w : World) (im : Nat → Prop) (μ : Mu) (hp : Hp) (v : Value) : RepV w im μ hp (constAV v) v := by
  unfold constAV
  split <;> first
    | trivial
    | (refine ⟨?_, rfl⟩; simp [RepA, RepD, Value.cells]; done)

theorem Inv.ev {C : Ctx} {im : Nat → Prop} {μ : Mu} {s : ASt} {a : Act} {w : World} (h : Inv C im μ s a w) (x : Operand) : RepV w im μ s.hp (s.ev C x) (a.eval x) := by
  cases x with
  | tmp t => exact h.fr t
  | const v => exact constAV_rep _ _ _ _ _
  | global g =>
    simp only [ASt.ev, Act.eval]
    cases hg : C.Γ g with
    | none => trivial
    | some v => exact h.glob g v hg
  | func f =>
    refine ⟨?_, rfl⟩
    simp only [RepA, ASt.ev, Act.eval, Value.cells]
    exact ⟨[], [], rfl, by simp [RepFs], by simp [RepFs]⟩

inductive AEx where
  | normal
  | exit (id : Nat)
  | ret
  | panic (t : TypeId) (n : Int)

def AEx.real : AEx → Exit
  | .normal => .normal
  | .exit id => .exit id
  | .ret => .ret
  | .panic t n => .panic [{ v := .iface t (.int .i64 n), recovered := false }]

def AEx.thn (N : ASt → Prop) (Q : AEx → ASt → Prop) : AEx → ASt → Prop
  | .normal, s => N s
  | .exit id, s => Q (.exit id) s
  | .ret, s => Q .ret s
  | .panic t n, s => Q (.panic t n) s

def AEx.inBlk (id : Nat) (Q : AEx → ASt → Prop) : AEx → ASt → Prop
  | .normal, s => Q .normal s
  | .exit i, s => bif Nat.beq i id then Q .normal s else Q (.exit i) s
  | .ret, s => Q .ret s
  | .panic t n, s => Q (.panic t n) s

/-- the model's post for an abstract one -/
def lft (C : Ctx) (Q : AEx → ASt → Prop) : Exit → Act → World → Prop := fun e a w => ∃ ae s, e = ae.real ∧ Q ae s ∧ Rel C s a w

/-- the fence: all is let in; a round of a range over a function, or none -/
def fen (rd : Option Nat) : Fence := { Fence.wide with round := rd }
theorem fen_fn (rd : Option Nat) (f : FuncId) : (fen rd).fn f := trivial
def AW (P : Program) (C : Ctx) (c : Code) (Q : AEx → ASt → Prop) (s : ASt) : Prop := ∀ a w, Rel C s a w → c.wpIn (fen C.rd) 0 P (lft C Q) a w

theorem notDefer_of_run {P : Program} {ρ : Operand → Value} {o : Oper} {w w' : World} {v : Value} (h : (execOp ρ o).run P w = .ok (.value v) w' ∨ (execOp ρ o).run P w = .ok .skip w') : ∀ c, o.op ≠ .defer c := by
  intro c hc
  have key : ∀ x w'', (execOp ρ o).run P w = .ok x w'' → ∃ d, x = .defer d := by
    intro x w'' hx
    simp only [execOp, hc, Sem.run_bind, Sem.run_pure] at hx
    cases hr : (resolve ρ c o.type).run P w with
    | ok d w1 => rw [hr] at hx; simp only [Result.andThen_ok] at hx; cases hx; exact ⟨_, rfl⟩
    | halt h w1 => rw [hr] at hx; simp [Result.andThen] at hx
  rcases h with h | h
  · obtain ⟨d, hd⟩ := key _ _ h; cases hd
  · obtain ⟨d, hd⟩ := key _ _ h; cases hd

/-- whatever stands for s stands for s' -/
def Le (C : Ctx) (s s' : ASt) : Prop := ∀ a w, Rel C s a w → Rel C s' a w

section
variable {P : Program} {C : Ctx} {Q : AEx → ASt → Prop} {s : ASt}

theorem Le.refl (C : Ctx) (s : ASt) : Le C s s := fun _ _ h => h
theorem Le.trans {s1 s2 s3 : ASt} (h : Le C s1 s2) (h' : Le C s2 s3) : Le C s1 s3 := fun a w hr => h' a w (h a w hr)

theorem aw_weaken {c : Code} {s' : ASt} (hl : Le C s s') (h : AW P C c Q s') : AW P C c Q s := fun a w hr => h a w (hl a w hr)
theorem aw_mono {c : Code} {Q' : AEx → ASt → Prop} (h : AW P C c Q s) (hq : ∀ e s', Q e s' → Q' e s') : AW P C c Q' s :=
  fun a w hr => wpIn_mono (h a w hr) fun e a' w' hx => by obtain ⟨ae, s', he, hq', hr'⟩ := hx; exact ⟨ae, s', he, hq _ _ hq', hr'⟩
theorem aw_skip (h : Q .normal s) : AW P C .skip Q s := fun _ _ hr => wpIn_skip ⟨.normal, s, rfl, h, hr⟩
theorem aw_label {l : Nat} (h : Q .normal s) : AW P C (.label l) Q s := fun _ _ hr => wpIn_label ⟨.normal, s, rfl, h, hr⟩
theorem aw_ret (h : Q .ret s) : AW P C .ret Q s := fun _ _ hr => wpIn_ret ⟨.ret, s, rfl, h, hr⟩
theorem aw_exit {id : Nat} (h : Q (.exit id) s) : AW P C (.exit id) Q s := fun _ _ hr => wpIn_exit ⟨.exit id, s, rfl, h, hr⟩
theorem aw_seq {x y : Code} (h : AW P C x (AEx.thn (fun s' => AW P C y Q s') Q) s) : AW P C (.seq x y) Q s := fun a w hr =>
  wpIn_seq (wpIn_mono (h a w hr) fun e a' w' hx => by
    obtain ⟨ae, s', rfl, hq, hr'⟩ := hx
    cases ae with
    | normal => exact hq a' w' hr'
    | exit id => exact ⟨.exit id, s', rfl, hq, hr'⟩
    | ret => exact ⟨.ret, s', rfl, hq, hr'⟩
    | panic t n => exact ⟨.panic t n, s', rfl, hq, hr'⟩)
theorem aw_block {id : Nat} {c : Code} (h : AW P C c (AEx.inBlk id Q) s) : AW P C (.block id c) Q s := fun a w hr =>
  wpIn_block (wpIn_mono (h a w hr) fun e a' w' hx => by
    obtain ⟨ae, s', rfl, hq, hr'⟩ := hx
    cases ae with
    | normal => exact ⟨.normal, s', rfl, hq, hr'⟩
    | exit i =>
      simp only [AEx.real, Exit.inBlock]
      simp only [AEx.inBlk] at hq
      by_cases hi : i = id
      · subst hi
        simp only [if_true]
        simp at hq
        exact ⟨.normal, s', rfl, hq, hr'⟩
      · rw [if_neg hi]
        have : Nat.beq i id = false := by rw [← Bool.not_eq_true]; intro hb; exact hi (Nat.eq_of_beq_eq_true hb)
        rw [this] at hq
        exact ⟨.exit i, s', rfl, hq, hr'⟩
    | ret => exact ⟨.ret, s', rfl, hq, hr'⟩
    | panic t n => exact ⟨.panic t n, s', rfl, hq, hr'⟩)
theorem aw_cond {c : Operand} {x y : Code} {b : Bool} (hc : s.ev C c = .d .bool b) (ht : b = true → AW P C x Q s) (hf : b = false → AW P C y Q s) : AW P C (.cond c x y) Q s := by
  intro a w hr
  have hr' := hr
  obtain ⟨im, μ, hi⟩ := hr
  have he := hi.ev c
  rw [hc] at he
  have hv : a.eval c = .bool b := by
    generalize a.eval c = v at he
    obtain ⟨he, hag⟩ := he
    cases v <;> simp_all [RepA, RepD, Value.cells, vIsAgg, AV.isAgg, Ty.isAgg]
  cases b with
  | true => exact wpIn_cond_true hv (ht rfl a w hr')
  | false => exact wpIn_cond_false hv (hf rfl a w hr')

theorem exists_least {p : Nat → Prop} (h : ∃ n, p n) : ∃ n, p n ∧ ∀ m, p m → n ≤ m := by
  obtain ⟨n, hn⟩ := h
  induction n using Nat.strongRecOn with
  | _ n ih =>
    by_cases hex : ∃ m, m < n ∧ p m
    · obtain ⟨m, hm, hp⟩ := hex; exact ih m hm hp
    · refine ⟨n, hn, fun m hp => ?_⟩
      rcases Nat.lt_or_ge m n with hlt | hge
      · exact (hex ⟨m, hlt, hp⟩).elim
      · exact hge

open Classical in
theorem wp_loop_nat {F : Fence} {N : Nat} {c : Code} {Q : Exit → Act → World → Prop} (J : Nat → Act → World → Prop) {n : Nat} {a : Act} {w : World} (h0 : J n a w)
    (round : ∀ n a w, J n a w → c.wpIn F N P (Exit.then (fun a' w' => ∃ m, m < n ∧ J m a' w') Q) a w) : (Code.loop c).wpIn F N P Q a w := by
  refine wpIn_loop (fun a w => ∃ n, J n a w) (fun a w => if h : ∃ n, J n a w then Classical.choose (exists_least h) else 0) ⟨n, h0⟩ ?_
  intro a w hex
  have hmin := (Classical.choose_spec (exists_least hex)).1
  refine wpIn_mono (round _ a w hmin) fun e a' w' hq => ?_
  cases e with
  | normal =>
    obtain ⟨m, hm, hj⟩ := hq
    have hex' : ∃ n, J n a' w' := ⟨m, hj⟩
    refine ⟨hex', ?_⟩
    simp only [dif_pos hex, dif_pos hex']
    exact Nat.lt_of_le_of_lt ((Classical.choose_spec (exists_least hex')).2 _ hj) hm
  | _ => exact hq

/-- a loop: J n s: at a round's head, at most n rounds to come -/
theorem aw_loop {c : Code} (J : Nat → ASt → Prop) {n : Nat} (h0 : J n s)
    (round : ∀ n s, J n s → AW P C c (AEx.thn (fun s' => ∃ m s'', m < n ∧ Le C s' s'' ∧ J m s'') Q) s) : AW P C (.loop c) Q s := by
  intro a w hr
  refine wp_loop_nat (fun n a w => ∃ s, J n s ∧ Rel C s a w) ⟨s, h0, hr⟩ ?_
  rintro n a w ⟨s, hj, hr⟩
  refine wpIn_mono (round n s hj a w hr) fun e a' w' hx => ?_
  obtain ⟨ae, s', rfl, hq, hr'⟩ := hx
  cases ae with
  | normal =>
    obtain ⟨m, s'', hm, hle, hj'⟩ := hq
    exact ⟨m, hm, s'', hj', hle _ _ hr'⟩
  | exit id => exact ⟨.exit id, s', rfl, hq, hr'⟩
  | ret => exact ⟨.ret, s', rfl, hq, hr'⟩
  | panic t n => exact ⟨.panic t n, s', rfl, hq, hr'⟩
end

/-- what one operation does to a state: the slot that it writes, the objects that it reads, those that it makes or turns -/
structure Eff where
  dst : Option Nat
  val : AV
  rd : List Nat
  wr : List (Nat × AObj)

def hpSet (hp : Hp) (wr : List (Nat × AObj)) : Hp := fun o => match wr.find? (fun p => Nat.beq p.1 o) with | some p => some p.2 | none => hp o

def Eff.app (e : Eff) (s : ASt) : ASt := ⟨(s.put e.dst e.val).fr, hpSet s.hp e.wr⟩

/-- operation i of the region does what e says, in every state that is as s at what it looks at -/
def StepOK (P : Program) (C : Ctx) (ops : Array Oper) (i : Nat) (s : ASt) (e : Eff) : Prop :=
  ∀ o, ops[i]? = some o → (∀ d, o.dst = some d → d < C.n) → e.dst = o.dst ∧
  ∀ s1 : ASt, (∀ x ∈ o.looksAt ops, s1.fr x = s.fr x) → (∀ k, (k ∈ e.rd ∨ k ∈ e.wr.map (·.1)) → s1.hp k = s.hp k) →
  ∀ a w, Rel C s1 a w → ∀ (K : Act → World → Prop) (Q : Exit → Act → World → Prop), (∀ a' w', Rel C (e.app s1) a' w' → K a' w') → wpOpIn (fen C.rd) 0 P ops Q i K a w

def dstsBelow (ops : Array Oper) (n : Nat) : Bool := ops.toList.all fun o => match o.dst with | some d => Nat.blt d n | none => true

theorem dstsBelow_spec {ops : Array Oper} {n : Nat} (h : dstsBelow ops n = true) {i : Nat} {o : Oper} (ho : ops[i]? = some o) : ∀ d, o.dst = some d → d < n := by
  intro d hd
  have hm : o ∈ ops.toList := Array.mem_toList_iff.2 (Array.mem_of_getElem? ho)
  have := List.all_eq_true.1 h o hm
  rw [hd] at this
  exact Nat.le_of_ble_eq_true (by simpa [Nat.blt] using this)

section
variable {P : Program} {C : Ctx} {Q : AEx → ASt → Prop} {s : ASt} {ops : Array Oper} {K : ASt → Prop}

/-- from operation i on, in the text's order -/
def RunN (P : Program) (C : Ctx) (ops : Array Oper) (Q : AEx → ASt → Prop) (i : Nat) (s : ASt) (K : ASt → Prop) : Prop :=
  ∀ a w, Rel C s a w → wpOpsIn (fen C.rd) 0 P ops (lft C (AEx.thn K Q)) (List.range' i (ops.size - i)) a w

theorem runN_end (h : K s) : RunN P C ops Q ops.size s K := by
  intro a w hr
  simp only [Nat.sub_self, List.range'_zero, wpOpsIn]
  exact ⟨.normal, s, rfl, h, hr⟩

theorem runN_step {i : Nat} {e : Eff} (hi : i < ops.size) (hn : dstsBelow ops C.n = true) (h : StepOK P C ops i s e) (hk : RunN P C ops Q (i + 1) (e.app s) K) : RunN P C ops Q i s K := by
  intro a w hr
  have ho : ops[i]? = some ops[i] := Array.getElem?_eq_getElem hi
  obtain ⟨_, h⟩ := h _ ho (dstsBelow_spec hn ho)
  rw [show ops.size - i = (ops.size - (i + 1)) + 1 by omega, List.range'_succ, wpOpsIn_cons]
  exact h s (fun _ _ => rfl) (fun _ _ => rfl) a w hr _ _ fun a' w' hr' => hk a' w' hr'

theorem aw_region {id : Nat} (h : RunN P C ops Q 0 s (fun s' => Q .normal s')) : AW P C (.region id ops false) Q s := by
  intro a w hr
  refine wpIn_region ?_
  have := h a w hr
  rw [Nat.sub_zero, ← List.range_eq_range'] at this
  have e : lft C (AEx.thn (fun s' => Q .normal s') Q) = lft C Q := by
    funext e a w
    simp only [lft, eq_iff_iff]
    constructor
    · rintro ⟨ae, s', he, hq, hr⟩; exact ⟨ae, s', he, by cases ae <;> exact hq, hr⟩
    · rintro ⟨ae, s', he, hq, hr⟩; exact ⟨ae, s', he, by cases ae <;> exact hq, hr⟩
  rwa [e] at this

/-! ### Whatever order -/

/-- the state behind those of the operations that L names, from number i on -/
def apps (s : ASt) : List Eff → (Nat → Bool) → Nat → ASt
  | [], _, _ => s
  | e :: es, L, i => apps (bif L i then e.app s else s) es L (i + 1)

def Chain (P : Program) (C : Ctx) (ops : Array Oper) : Nat → ASt → List Eff → Prop
  | _, _, [] => True
  | i, s, e :: es => StepOK P C ops i s e ∧ Chain P C ops (i + 1) (e.app s) es

def appAll (s : ASt) : List Eff → ASt
  | [] => s
  | e :: es => appAll (e.app s) es

theorem Eff.app_fr_ne {e : Eff} {s : ASt} {x : Nat} (h : e.dst ≠ some x) : (e.app s).fr x = s.fr x := by
  obtain ⟨dst, val, rd, wr⟩ := e
  cases dst with
  | none => rfl
  | some d => exact putF_ne _ _ (fun hx => h (by rw [hx]))

theorem Eff.app_fr_eq {e : Eff} {s : ASt} {x : Nat} (h : e.dst = some x) : (e.app s).fr x = e.val := by
  obtain ⟨dst, val, rd, wr⟩ := e
  simp only at h
  subst h
  exact putF_same _ _ _

theorem hpSet_ne {hp : Hp} {wr : List (Nat × AObj)} {o : Nat} (h : o ∉ wr.map (·.1)) : hpSet hp wr o = hp o := by
  unfold hpSet
  have : wr.find? (fun p => Nat.beq p.1 o) = none := by
    rw [List.find?_eq_none]
    intro p hp' hb
    exact h (List.mem_map.2 ⟨p, hp', Nat.eq_of_beq_eq_true hb⟩)
  rw [this]

theorem hpSet_congr {hp hp' : Hp} {wr : List (Nat × AObj)} {o : Nat} (h : o ∈ wr.map (·.1)) : hpSet hp wr o = hpSet hp' wr o := by
  unfold hpSet
  cases hf : wr.find? (fun p => Nat.beq p.1 o) with
  | some p => rfl
  | none =>
    rw [List.find?_eq_none] at hf
    obtain ⟨p, hp', rfl⟩ := List.mem_map.1 h
    exact absurd (Nat.beq_refl p.1) (hf p hp')

theorem apps_fr_congr {x : Nat} {L L' : Nat → Bool} : ∀ (es : List Eff) (s s' : ASt) (i : Nat), s.fr x = s'.fr x → (∀ j e, es[j]? = some e → e.dst = some x → L (i + j) = L' (i + j)) →
    (apps s es L i).fr x = (apps s' es L' i).fr x
  | [], _, _, _, h, _ => h
  | e :: es, s, s', i, h, hl => by
    simp only [apps]
    refine apps_fr_congr es _ _ (i + 1) ?_ (fun j e' he hd => by have := hl (j + 1) e' (by simpa using he) hd; rwa [show i + (j + 1) = i + 1 + j by omega] at this)
    by_cases hd : e.dst = some x
    · have h0 := hl 0 e (by simp) hd
      simp only [Nat.add_zero] at h0
      rw [h0]
      cases L' i with
      | true => simp only [cond_true, Eff.app_fr_eq hd]
      | false => simpa using h
    · cases L i <;> cases L' i <;> simp [Eff.app_fr_ne hd, h]

theorem apps_hp_congr {k : Nat} {L L' : Nat → Bool} : ∀ (es : List Eff) (s s' : ASt) (i : Nat), s.hp k = s'.hp k → (∀ j e, es[j]? = some e → k ∈ e.wr.map (·.1) → L (i + j) = L' (i + j)) →
    (apps s es L i).hp k = (apps s' es L' i).hp k
  | [], _, _, _, h, _ => h
  | e :: es, s, s', i, h, hl => by
    simp only [apps]
    refine apps_hp_congr es _ _ (i + 1) ?_ (fun j e' he hd => by have := hl (j + 1) e' (by simpa using he) hd; rwa [show i + (j + 1) = i + 1 + j by omega] at this)
    by_cases hd : k ∈ e.wr.map (·.1)
    · have h0 := hl 0 e (by simp) hd
      simp only [Nat.add_zero] at h0
      rw [h0]
      cases L' i with
      | true => simp only [cond_true, Eff.app]; exact hpSet_congr hd
      | false => simpa using h
    · have hne : ∀ s : ASt, (e.app s).hp k = s.hp k := fun s => hpSet_ne hd
      cases L i <;> cases L' i <;> simp [hne, h]

theorem apps_all : ∀ (es : List Eff) (s : ASt) (L : Nat → Bool) (i : Nat), (∀ j, j < es.length → L (i + j) = true) → apps s es L i = appAll s es
  | [], _, _, _, _ => rfl
  | e :: es, s, L, i, h => by
    have h0 := h 0 (by simp)
    simp only [Nat.add_zero] at h0
    simp only [apps, appAll, h0, cond_true]
    exact apps_all es _ L (i + 1) (fun j hj => by have := h (j + 1) (by simp; omega); rwa [show i + (j + 1) = i + 1 + j by omega] at this)

theorem apps_none : ∀ (es : List Eff) (s : ASt) (L : Nat → Bool) (i : Nat), (∀ j, j < es.length → L (i + j) = false) → apps s es L i = s
  | [], _, _, _, _ => rfl
  | e :: es, s, L, i, h => by
    have h0 := h 0 (by simp)
    simp only [Nat.add_zero] at h0
    simp only [apps, h0, cond_false]
    exact apps_none es _ L (i + 1) (fun j hj => by have := h (j + 1) (by simp; omega); rwa [show i + (j + 1) = i + 1 + j by omega] at this)

/-- the chain's i-th operation, met in the state behind the first i -/
theorem Chain.get : ∀ (es : List Eff) (s : ASt) (i j : Nat) (e : Eff), Chain P C ops i s es → es[j]? = some e → StepOK P C ops (i + j) (apps s es (fun k => Nat.blt k (i + j)) i) e
  | e0 :: es, s, i, 0, e, h, he => by
    simp only [List.getElem?_cons_zero, Option.some.injEq] at he
    subst he
    have : apps s (e0 :: es) (fun k => Nat.blt k (i + 0)) i = s := apps_none _ _ _ _ (fun j _ => by rw [← Bool.not_eq_true]; intro hb; have := Nat.le_of_ble_eq_true hb; omega)
    rw [this]; exact h.1
  | e0 :: es, s, i, j + 1, e, h, he => by
    have h2 := Chain.get es (e0.app s) (i + 1) j e h.2 (by simpa using he)
    rw [show i + 1 + j = i + (j + 1) by omega] at h2
    have : apps s (e0 :: es) (fun k => Nat.blt k (i + (j + 1))) i = apps (e0.app s) es (fun k => Nat.blt k (i + (j + 1))) (i + 1) := by
      have hb : Nat.blt i (i + (j + 1)) = true := by simp [Nat.blt]
      simp only [apps, hb, cond_true]
    rw [this]; exact h2
  | [], _, _, _, _, _, he => by simp at he

def disj (ops : Array Oper) (oi oj : Oper) (ei ej : Eff) : Bool :=
  (match oi.dst with | some d => !((oj.looksAt ops).any (Nat.beq d)) && (match oj.dst with | some d' => !(Nat.beq d d') | none => true) | none => true) &&
  (match oj.dst with | some d => !((oi.looksAt ops).any (Nat.beq d)) | none => true) &&
  ei.wr.all (fun p => !(ej.rd.any (Nat.beq p.1)) && !(ej.wr.any fun q => Nat.beq p.1 q.1)) &&
  ej.wr.all (fun p => !(ei.rd.any (Nat.beq p.1)))

def orOf (o : Oper) (cl : List Nat) : Nat := o.after.foldl (fun acc e => if Region.binds .any e then acc ||| (2 ^ e.on ||| cl.getD e.on 0) else acc) 0

/-- cl: for each operation the set of those that must be ahead of it, closed -/
def checkD (ops : Array Oper) (es : List Eff) (cl : List Nat) : Bool :=
  Nat.beq es.length ops.size && Nat.beq cl.length ops.size &&
  (List.range ops.size).all fun j =>
    match ops[j]? with
    | none => true
    | some o =>
      (Nat.beq (cl.getD j 0 ||| orOf o cl) (orOf o cl)) && (o.after.toList.all fun e => !Region.binds .any e || Nat.blt e.on j) &&
      (List.range j).all fun i => (cl.getD j 0).testBit i || (match ops[i]?, es[i]?, es[j]? with | some oi, some ei, some ej => disj ops oi o ei ej | _, _, _ => true)

end
end Go.Vm
namespace Go.Vm

def cntU (L : Nat → Bool) : Nat → Nat
  | 0 => 0
  | n + 1 => cntU L n + bif L n then 0 else 1

theorem cntU_zero {L : Nat → Bool} : ∀ {n : Nat}, cntU L n = 0 → ∀ j, j < n → L j = true
  | n + 1, h, j, hj => by
    simp only [cntU] at h
    have hl : L n = true := by
      cases hl : L n with
      | true => rfl
      | false => rw [hl] at h; simp at h
    rw [hl] at h
    simp only [cond_true, Nat.add_zero] at h
    by_cases e : j = n
    · subst e; exact hl
    · exact cntU_zero (by omega) j (by omega)

theorem cntU_congr {L L' : Nat → Bool} : ∀ n, (∀ j, j < n → L' j = L j) → cntU L' n = cntU L n
  | 0, _ => rfl
  | n + 1, h => by simp only [cntU]; rw [cntU_congr n (fun j hj => h j (by omega)), h n (by omega)]

theorem cntU_set {L L' : Nat → Bool} {i : Nat} (hi : L i = false) (hi' : L' i = true) (h : ∀ j, j ≠ i → L' j = L j) : ∀ n, i < n → cntU L' n + 1 = cntU L n
  | n + 1, hn => by
    simp only [cntU]
    by_cases e : i = n
    · subst e
      rw [cntU_congr i (fun j hj => h j (by omega)), hi, hi']; simp
    · rw [h n (Ne.symm e)]
      have := cntU_set hi hi' h n (by omega)
      omega

theorem orOf_foldl (cl : List Nat) (i : Nat) : ∀ (l : List Edge) (acc : Nat),
    (l.foldl (fun acc e => if Region.binds .any e then acc ||| (2 ^ e.on ||| cl.getD e.on 0) else acc) acc).testBit i = true →
    acc.testBit i = true ∨ ∃ e ∈ l, Region.binds .any e = true ∧ (i = e.on ∨ (cl.getD e.on 0).testBit i = true)
  | [], acc, h => .inl h
  | e :: l, acc, h => by
    rcases orOf_foldl cl i l _ h with h | ⟨e', he', h'⟩
    · by_cases hb : Region.binds .any e = true
      · simp only [hb, if_true, Nat.testBit_or, Bool.or_eq_true] at h
        rcases h with h | h | h
        · exact .inl h
        · refine .inr ⟨e, by simp, hb, .inl ?_⟩
          rw [Nat.testBit_two_pow] at h
          exact (of_decide_eq_true h).symm
        · exact .inr ⟨e, by simp, hb, .inr h⟩
      · simp only [hb] at h
        exact .inl h
    · exact .inr ⟨e', by simp [he'], h'⟩

theorem orOf_spec {o : Oper} {cl : List Nat} {i : Nat} (h : (orOf o cl).testBit i = true) : ∃ e ∈ o.after.toList, Region.binds .any e = true ∧ (i = e.on ∨ (cl.getD e.on 0).testBit i = true) := by
  unfold orOf at h
  rw [← Array.foldl_toList] at h
  rcases orOf_foldl cl i _ _ h with h | h
  · simp at h
  · exact h

section
variable {P : Program} {C : Ctx} {ops : Array Oper}

structure ChkD (ops : Array Oper) (es : List Eff) (cl : List Nat) : Prop where
  len : es.length = ops.size
  clo : ∀ j o, ops[j]? = some o → ∀ i, (cl.getD j 0).testBit i = true → (orOf o cl).testBit i = true
  edge : ∀ j o, ops[j]? = some o → ∀ e ∈ o.after.toList, Region.binds .any e = true → e.on < j
  pair : ∀ i j oi oj ei ej, i < j → ops[i]? = some oi → ops[j]? = some oj → es[i]? = some ei → es[j]? = some ej → (cl.getD j 0).testBit i = true ∨ disj ops oi oj ei ej = true

theorem checkD_spec {es : List Eff} {cl : List Nat} (h : checkD ops es cl = true) : ChkD ops es cl := by
  unfold checkD at h
  simp only [Bool.and_eq_true, List.all_eq_true, List.mem_range] at h
  obtain ⟨⟨h1, _⟩, h2⟩ := h
  refine ⟨Nat.eq_of_beq_eq_true h1, ?_, ?_, ?_⟩
  · intro j o ho i hb
    have hj : j < ops.size := (Array.getElem?_eq_some_iff.1 ho).1
    have := h2 j hj
    simp only [ho, Bool.and_eq_true] at this
    have e := Nat.eq_of_beq_eq_true this.1.1
    rw [← e, Nat.testBit_or, hb]; rfl
  · intro j o ho e he hb
    have hj : j < ops.size := (Array.getElem?_eq_some_iff.1 ho).1
    have := h2 j hj
    simp only [ho, Bool.and_eq_true] at this
    have h3 := List.all_eq_true.1 this.1.2 e he
    simp only [hb, Bool.not_true, Bool.false_or] at h3
    exact Nat.le_of_ble_eq_true (by simpa [Nat.blt] using h3)
  · intro i j oi oj ei ej hij hoi hoj hei hej
    have hj : j < ops.size := (Array.getElem?_eq_some_iff.1 hoj).1
    have := h2 j hj
    simp only [hoj, Bool.and_eq_true, List.all_eq_true, List.mem_range] at this
    have h3 := this.2 i hij
    simp only [hoi, hei, hej, Bool.or_eq_true] at h3
    exact h3

def Down (ops : Array Oper) (L : Nat → Bool) : Prop := ∀ j o, ops[j]? = some o → L j = true → ∀ e ∈ o.after.toList, Region.binds .any e = true → L e.on = true

theorem down_closed {es : List Eff} {cl : List Nat} (hc : ChkD ops es cl) {L : Nat → Bool} (hd : Down ops L) :
    ∀ j o, ops[j]? = some o → L j = true → ∀ i, (cl.getD j 0).testBit i = true → L i = true := by
  intro j
  induction j using Nat.strongRecOn with
  | _ j ih =>
    intro o ho hl i hb
    obtain ⟨e, he, hbd, hi⟩ := orOf_spec (hc.clo j o ho i hb)
    have hlt := hc.edge j o ho e he hbd
    have hle := hd j o ho hl e he hbd
    rcases hi with rfl | hi
    · exact hle
    · have hj : j < ops.size := (Array.getElem?_eq_some_iff.1 ho).1
      exact ih e.on hlt _ (Array.getElem?_eq_getElem (by omega)) hle i hi

theorem beq_self_any {d : Nat} {l : List Nat} (h : d ∈ l) : l.any (Nat.beq d) = true := List.any_eq_true.2 ⟨d, h, Nat.beq_refl d⟩

theorem disj_spec {oi oj : Oper} {ei ej : Eff} (h : disj ops oi oj ei ej = true) :
    (∀ d, oi.dst = some d → d ∉ oj.looksAt ops) ∧ (∀ d, oi.dst = some d → oj.dst ≠ some d) ∧ (∀ d, oj.dst = some d → d ∉ oi.looksAt ops) ∧
    (∀ k, k ∈ ei.wr.map (·.1) → k ∉ ej.rd ∧ k ∉ ej.wr.map (·.1)) ∧ (∀ k, k ∈ ej.wr.map (·.1) → k ∉ ei.rd) := by
  unfold disj at h
  simp only [Bool.and_eq_true] at h
  obtain ⟨⟨⟨h1, h2⟩, h3⟩, h4⟩ := h
  refine ⟨?_, ?_, ?_, ?_, ?_⟩
  · intro d hd hm
    rw [hd] at h1
    simp only [Bool.and_eq_true, Bool.not_eq_true'] at h1
    rw [beq_self_any hm] at h1
    simp at h1
  · intro d hd hd'
    rw [hd] at h1
    simp [hd', Nat.beq_refl] at h1
  · intro d hd hm
    rw [hd] at h2
    simp only [Bool.not_eq_true'] at h2
    rw [beq_self_any hm] at h2
    simp at h2
  · intro k hk
    obtain ⟨p, hp, rfl⟩ := List.mem_map.1 hk
    have := List.all_eq_true.1 h3 p hp
    simp only [Bool.and_eq_true, Bool.not_eq_true'] at this
    refine ⟨fun hm => ?_, fun hm => ?_⟩
    · rw [beq_self_any hm] at this; simp at this
    · obtain ⟨q, hq, he⟩ := List.mem_map.1 hm
      have hany : (ej.wr.any fun q => Nat.beq p.1 q.1) = true := List.any_eq_true.2 ⟨q, hq, by rw [he]; exact Nat.beq_refl _⟩
      rw [hany] at this; simp at this
  · intro k hk hm
    obtain ⟨p, hp, rfl⟩ := List.mem_map.1 hk
    have := List.all_eq_true.1 h4 p hp
    simp only [Bool.not_eq_true'] at this
    rw [beq_self_any hm] at this; simp at this

theorem apps_last {x : Nat} {L : Nat → Bool} : ∀ (es : List Eff) (s : ASt) (i j : Nat) (e : Eff), es[j]? = some e → e.dst = some x → L (i + j) = true →
    (∀ j' e', j < j' → es[j']? = some e' → e'.dst = some x → L (i + j') = false) → (apps s es L i).fr x = e.val
  | e0 :: es, s, i, 0, e, he, hd, hl, hn => by
    simp only [List.getElem?_cons_zero, Option.some.injEq] at he
    subst he
    simp only [Nat.add_zero] at hl
    simp only [apps, hl, cond_true]
    have : (apps (e0.app s) es L (i + 1)).fr x = (apps (e0.app s) es (fun _ => false) (i + 1)).fr x :=
      apps_fr_congr es _ _ _ rfl (fun j e' he' hd' => by have := hn (j + 1) e' (by omega) (by simpa using he') hd'; rwa [show i + (j + 1) = i + 1 + j by omega] at this)
    rw [this, apps_none _ _ _ _ (fun _ _ => rfl)]
    exact Eff.app_fr_eq hd
  | e0 :: es, s, i, j + 1, e, he, hd, hl, hn => by
    simp only [apps]
    refine apps_last es _ (i + 1) j e (by simpa using he) hd (by rwa [show i + 1 + j = i + (j + 1) by omega]) (fun j' e' hj he' hd' => ?_)
    have := hn (j' + 1) e' (by omega) (by simpa using he') hd'
    rwa [show i + (j' + 1) = i + 1 + j' by omega] at this
  | [], _, _, _, _, he, _, _, _ => by simp at he

theorem apps_lastHp {k : Nat} {L : Nat → Bool} {hp0 : Hp} : ∀ (es : List Eff) (s : ASt) (i j : Nat) (e : Eff), es[j]? = some e → k ∈ e.wr.map (·.1) → L (i + j) = true →
    (∀ j' e', j < j' → es[j']? = some e' → k ∈ e'.wr.map (·.1) → L (i + j') = false) → (apps s es L i).hp k = hpSet hp0 e.wr k
  | e0 :: es, s, i, 0, e, he, hd, hl, hn => by
    simp only [List.getElem?_cons_zero, Option.some.injEq] at he
    subst he
    simp only [Nat.add_zero] at hl
    simp only [apps, hl, cond_true]
    have : (apps (e0.app s) es L (i + 1)).hp k = (apps (e0.app s) es (fun _ => false) (i + 1)).hp k :=
      apps_hp_congr es _ _ _ rfl (fun j e' he' hd' => by have := hn (j + 1) e' (by omega) (by simpa using he') hd'; rwa [show i + (j + 1) = i + 1 + j by omega] at this)
    rw [this, apps_none _ _ _ _ (fun _ _ => rfl)]
    exact hpSet_congr hd
  | e0 :: es, s, i, j + 1, e, he, hd, hl, hn => by
    simp only [apps]
    refine apps_lastHp es _ (i + 1) j e (by simpa using he) hd (by rwa [show i + 1 + j = i + (j + 1) by omega]) (fun j' e' hj he' hd' => ?_)
    have := hn (j' + 1) e' (by omega) (by simpa using he') hd'
    rwa [show i + (j' + 1) = i + 1 + j' by omega] at this
  | [], _, _, _, _, he, _, _, _ => by simp at he

/-- what each operation does, seen from what was done ahead of it -/
def StepQ (P : Program) (C : Ctx) (ops : Array Oper) (cl : List Nat) (Qr : Exit → Act → World → Prop) (s0 : ASt) (es : List Eff) : Prop :=
  ∀ (i : Nat) (o : Oper) (e : Eff), ops[i]? = some o → es[i]? = some e → e.dst = o.dst ∧
  ∀ s1 : ASt, (∀ x ∈ o.looksAt ops, s1.fr x = (apps s0 es (fun k => Nat.blt k i) 0).fr x) → (∀ k, (k ∈ e.rd ∨ k ∈ e.wr.map (·.1)) → s1.hp k = (apps s0 es (fun k => Nat.blt k i) 0).hp k) →
  ((∀ j, j < i → (cl.getD i 0).testBit j = true) → i + 1 = ops.size → s1 = apps s0 es (fun k => Nat.blt k i) 0) →
  ∀ a w, Rel C s1 a w → ∀ K : Act → World → Prop, (∀ a' w', Rel C (e.app s1) a' w' → K a' w') → wpOpIn (fen C.rd) 0 P ops Qr i K a w

theorem ASt.ext' {s t : ASt} (h1 : ∀ x, s.fr x = t.fr x) (h2 : ∀ k, s.hp k = t.hp k) : s = t := by
  have e1 := funext h1
  have e2 := funext h2
  cases s with
  | mk f1 p1 =>
    cases t with
    | mk f2 p2 => simp only at e1 e2; rw [e1, e2]

/-- ONE CHAIN SERVES EVERY ORDER. -/
theorem draw_soundG {s0 : ASt} {es : List Eff} {cl : List Nat} {Qr : Exit → Act → World → Prop} (hst : StepQ P C ops cl Qr s0 es) (hck : checkD ops es cl = true)
    (hQ : ∀ a w, Rel C (appAll s0 es) a w → Qr .normal a w) :
    ∀ (fuel : Nat) (listed : Array Bool) (a : Act) (w : World), listed.size = ops.size → Down ops (fun j => listed.getD j false) → cntU (fun j => listed.getD j false) ops.size ≤ fuel →
      Rel C (apps s0 es (fun j => listed.getD j false) 0) a w → wpAnyIn (fen C.rd) 0 P .any ops Qr fuel listed a w := by
  have hc := checkD_spec hck
  have hdst : ∀ (j : Nat) (o : Oper) (e : Eff), ops[j]? = some o → es[j]? = some e → e.dst = o.dst := fun j o e ho he => (hst j o e ho he).1
  have opAt : ∀ j : Nat, j < ops.size → ops[j]? = some ops[j]! := by
    intro j hj
    rw [getElem!_pos ops j hj]; exact Array.getElem?_eq_getElem hj
  have allListed : ∀ (listed : Array Bool) a w, listed.size = ops.size → (∀ j, j < ops.size → listed.getD j false = true) → Rel C (apps s0 es (fun j => listed.getD j false) 0) a w → Qr .normal a w := by
    intro listed a w _ hall hr
    rw [apps_all es s0 _ 0 (fun j hj => by rw [Nat.zero_add]; exact hall j (by rw [← hc.len]; exact hj))] at hr
    exact hQ a w hr
  have noReady : ∀ (listed : Array Bool), listed.size = ops.size → Region.ready .any ops listed = [] → ∀ j, j < ops.size → listed.getD j false = true := by
    intro listed hsz hr j
    induction j using Nat.strongRecOn with
    | _ j ih =>
      intro hj
      cases hl : listed.getD j false with
      | true => rfl
      | false =>
        exfalso
        have hmem : j ∈ Region.ready .any ops listed := by
          unfold Region.ready
          rw [List.mem_filter]
          refine ⟨List.mem_range.2 hj, ?_⟩
          have hj' : j < listed.size := by omega
          have h1 : listed.getD j true = false := by
            simp only [Array.getD_eq_getD_getElem?, Array.getElem?_eq_getElem hj', Option.getD_some] at hl ⊢; exact hl
          rw [h1, opAt j hj]
          simp only [Bool.not_false, Bool.true_and, Option.map_some, Option.getD_some]
          rw [Array.all_eq_true_iff_forall_mem]
          intro e he
          cases hb : Region.binds .any e with
          | false => rfl
          | true =>
            have hlt := hc.edge j _ (opAt j hj) e (Array.mem_toList_iff.2 he) hb
            simp only [Bool.not_true, Bool.false_or]
            exact ih e.on hlt (by omega)
        rw [hr] at hmem
        cases hmem
  intro fuel
  induction fuel with
  | zero =>
    intro listed a w hsz hd hcnt hr
    have hall := cntU_zero (Nat.le_zero.1 hcnt)
    refine ⟨?_, allListed listed a w hsz hall hr⟩
    unfold Region.ready
    rw [List.filter_eq_nil_iff]
    intro i hi
    have hi := List.mem_range.1 hi
    have h1 := hall i hi
    have hi' : i < listed.size := by omega
    have h2 : listed.getD i true = true := by
      simp only [Array.getD_eq_getD_getElem?, Array.getElem?_eq_getElem hi', Option.getD_some] at h1 ⊢; exact h1
    simp [h2]
  | succ fuel ih =>
    intro listed a w hsz hd hcnt hr
    refine ⟨fun hnil => allListed listed a w hsz (noReady listed hsz hnil) hr, ?_⟩
    intro i hi
    unfold Region.ready at hi
    rw [List.mem_filter] at hi
    obtain ⟨hi, hrd⟩ := hi
    have hi := List.mem_range.1 hi
    have hi' : i < listed.size := by omega
    have hoi := opAt i hi
    rw [hoi] at hrd
    simp only [Option.map_some, Option.getD_some, Bool.and_eq_true, Bool.not_eq_true'] at hrd
    obtain ⟨hnl, hpre⟩ := hrd
    have hLi : listed.getD i false = false := by
      simp only [Array.getD_eq_getD_getElem?, Array.getElem?_eq_getElem hi', Option.getD_some] at hnl ⊢; exact hnl
    have hpre' : ∀ e ∈ (ops[i]!).after.toList, Region.binds .any e = true → listed.getD e.on false = true := by
      intro e he hb
      have := Array.all_eq_true_iff_forall_mem.1 hpre e (Array.mem_toList_iff.1 he)
      simpa [hb] using this
    have hie : i < es.length := by rw [hc.len]; exact hi
    have hei : es[i]? = some es[i] := List.getElem?_eq_getElem hie
    obtain ⟨hde, hrun⟩ := hst i _ es[i] hoi hei
    have closed := down_closed hc hd
    -- what must be ahead of i is listed
    have preI : ∀ j, (cl.getD i 0).testBit j = true → listed.getD j false = true := by
      intro j hj
      obtain ⟨e, he, hb, hje⟩ := orOf_spec (hc.clo i _ hoi j hj)
      have hle := hpre' e he hb
      have hlt := hc.edge i _ hoi e he hb
      rcases hje with rfl | hje
      · exact hle
      · exact closed e.on _ (opAt e.on (by omega)) hle j hje
    -- what must be behind i is not listed
    have postI : ∀ j, i < j → j < ops.size → (cl.getD j 0).testBit i = true → listed.getD j false = false := by
      intro j _ hjs hb
      cases hl : listed.getD j false with
      | false => rfl
      | true =>
        have := closed j _ (opAt j hjs) hl i hb
        rw [hLi] at this; cases this
    have same : ∀ (j : Nat) (ej : Eff), es[j]? = some ej → (∀ d, ¬ (j < i ∧ disj ops (ops[j]!) (ops[i]!) ej es[i] = true ∧ d = true) → ¬ (i < j ∧ disj ops (ops[i]!) (ops[j]!) es[i] ej = true ∧ d = true) → d = true → listed.getD j false = Nat.blt j i) := by
      intro j ej hej d h1 h2 hdt
      have hjs : j < ops.size := by rw [← hc.len]; exact (List.getElem?_eq_some_iff.1 hej).1
      rcases Nat.lt_trichotomy j i with hlt | heq | hgt
      · have hbl : Nat.blt j i = true := Nat.ble_eq_true_of_le hlt
        rw [hbl]
        rcases hc.pair j i _ _ _ _ hlt (opAt j hjs) hoi hej hei with h | h
        · exact preI j h
        · exact (h1 ⟨hlt, h, hdt⟩).elim
      · subst heq
        rw [hLi]
        symm
        rw [← Bool.not_eq_true]; intro hb; have := Nat.le_of_ble_eq_true hb; omega
      · have hbl : Nat.blt j i = false := by rw [← Bool.not_eq_true]; intro hb; have := Nat.le_of_ble_eq_true hb; omega
        rw [hbl]
        rcases hc.pair i j _ _ _ _ hgt hoi (opAt j hjs) hei hej with h | h
        · exact postI j hgt hjs h
        · exact (h2 ⟨hgt, h, hdt⟩).elim
    refine hrun (apps s0 es (fun j => listed.getD j false) 0) ?_ ?_ ?_ a w hr _ ?_
    · intro x hx
      refine apps_fr_congr es s0 s0 0 rfl (fun j ej hej hdj => ?_)
      have hjs : j < ops.size := by rw [← hc.len]; exact (List.getElem?_eq_some_iff.1 hej).1
      have hdj' : (ops[j]!).dst = some x := by rw [← hdst j _ _ (opAt j hjs) hej]; exact hdj
      rw [Nat.zero_add]
      refine same j ej hej true (fun ⟨_, hdis, _⟩ => ?_) (fun ⟨_, hdis, _⟩ => ?_) rfl
      · exact (disj_spec hdis).1 x hdj' hx
      · exact (disj_spec hdis).2.2.1 x hdj' hx
    · intro k hk
      refine apps_hp_congr es s0 s0 0 rfl (fun j ej hej hkj => ?_)
      rw [Nat.zero_add]
      refine same j ej hej true (fun ⟨_, hdis, _⟩ => ?_) (fun ⟨_, hdis, _⟩ => ?_) rfl
      · have := (disj_spec hdis).2.2.2.1 k hkj
        rcases hk with hk | hk
        · exact this.1 hk
        · exact this.2 hk
      · rcases hk with hk | hk
        · exact (disj_spec hdis).2.2.2.2 k hkj hk
        · exact ((disj_spec hdis).2.2.2.1 k hk).2 hkj
    · intro hb hsz1
      have e1 : ∀ (j : Nat) (ej : Eff), es[j]? = some ej → listed.getD j false = Nat.blt j i := by
        intro j ej hej
        have hj : j < ops.size := by rw [← hc.len]; exact (List.getElem?_eq_some_iff.1 hej).1
        rcases Nat.lt_or_ge j i with h | h
        · rw [show Nat.blt j i = true from Nat.ble_eq_true_of_le h]
          exact preI j (hb j h)
        · obtain rfl : j = i := by omega
          rw [hLi]
          symm
          rw [← Bool.not_eq_true]; intro hb; have := Nat.le_of_ble_eq_true hb; omega
      refine ASt.ext' (fun x => ?_) (fun k => ?_)
      · exact apps_fr_congr es s0 s0 0 rfl (fun j ej hej _ => by rw [Nat.zero_add]; exact e1 j ej hej)
      · exact apps_hp_congr es s0 s0 0 rfl (fun j ej hej _ => by rw [Nat.zero_add]; exact e1 j ej hej)
    · intro a' w' hr'
      have hL' : ∀ j, (listed.setIfInBounds i true).getD j false = bif Nat.beq j i then true else listed.getD j false := by
        intro j
        by_cases hji : j = i
        · subst hji
          simp [Array.getD_eq_getD_getElem?, hi']
        · have hb : Nat.beq j i = false := by rw [← Bool.not_eq_true]; intro hb; exact hji (Nat.eq_of_beq_eq_true hb)
          simp [hb, Array.getD_eq_getD_getElem?, Array.getElem?_setIfInBounds_ne (Ne.symm hji)]
      have hL'i : (listed.setIfInBounds i true).getD i false = true := by rw [hL' i, Nat.beq_refl]; rfl
      have hL'n : ∀ j, j ≠ i → (listed.setIfInBounds i true).getD j false = listed.getD j false := by
        intro j hji
        have hb : Nat.beq j i = false := by rw [← Bool.not_eq_true]; intro hb; exact hji (Nat.eq_of_beq_eq_true hb)
        rw [hL' j, hb]; rfl
      refine ih (listed.setIfInBounds i true) a' w' (by simpa using hsz) ?_ ?_ ?_
      · intro j o ho hlj e he hb
        show (listed.setIfInBounds i true).getD e.on false = true
        by_cases hji : j = i
        · subst hji
          obtain rfl : o = ops[j]! := Option.some.inj (ho.symm.trans hoi)
          have hlt := hc.edge j _ ho e he hb
          rw [hL'n e.on (by omega)]
          exact hpre' e he hb
        · have hlj' : listed.getD j false = true := by rw [← hL'n j hji]; exact hlj
          have := hd j o ho hlj' e he hb
          by_cases hei' : e.on = i
          · rw [hei']; exact hL'i
          · rw [hL'n _ hei']; exact this
      · have := cntU_set (L := fun j => listed.getD j false) (L' := fun j => (listed.setIfInBounds i true).getD j false) hLi hL'i hL'n ops.size hi
        omega
      · have heq : (es[i]).app (apps s0 es (fun j => listed.getD j false) 0) = apps s0 es (fun j => (listed.setIfInBounds i true).getD j false) 0 := by
          have hfr : ∀ x, ((es[i]).app (apps s0 es (fun j => listed.getD j false) 0)).fr x = (apps s0 es (fun j => (listed.setIfInBounds i true).getD j false) 0).fr x := by
            intro x
            by_cases hx : (es[i]).dst = some x
            · rw [Eff.app_fr_eq hx]
              symm
              refine apps_last es s0 0 i es[i] hei hx (by rw [Nat.zero_add]; exact hL'i) (fun j ej hij hej hdj => ?_)
              have hjs : j < ops.size := by rw [← hc.len]; exact (List.getElem?_eq_some_iff.1 hej).1
              rw [Nat.zero_add]
              show (listed.setIfInBounds i true).getD j false = false
              rw [hL'n j (by omega)]
              rcases hc.pair i j _ _ _ _ hij hoi (opAt j hjs) hei hej with h | h
              · exact postI j hij hjs h
              · have hx' : (ops[i]!).dst = some x := by rw [← hde]; exact hx
                have hdj' : (ops[j]!).dst = some x := by rw [← hdst j _ _ (opAt j hjs) hej]; exact hdj
                exact ((disj_spec h).2.1 x hx' hdj').elim
            · rw [Eff.app_fr_ne hx]
              refine apps_fr_congr es s0 s0 0 rfl (fun j ej hej hdj => ?_)
              rw [Nat.zero_add]
              have hji : j ≠ i := by
                rintro rfl
                rw [hei] at hej
                obtain rfl := Option.some.inj hej
                exact hx hdj
              exact (hL'n j hji).symm
          have hhp : ∀ k, ((es[i]).app (apps s0 es (fun j => listed.getD j false) 0)).hp k = (apps s0 es (fun j => (listed.setIfInBounds i true).getD j false) 0).hp k := by
            intro k
            by_cases hk : k ∈ (es[i]).wr.map (·.1)
            · symm
              refine apps_lastHp (hp0 := (apps s0 es (fun j => listed.getD j false) 0).hp) es s0 0 i es[i] hei hk (by rw [Nat.zero_add]; exact hL'i) (fun j ej hij hej hdj => ?_)
              have hjs : j < ops.size := by rw [← hc.len]; exact (List.getElem?_eq_some_iff.1 hej).1
              rw [Nat.zero_add]
              show (listed.setIfInBounds i true).getD j false = false
              rw [hL'n j (by omega)]
              rcases hc.pair i j _ _ _ _ hij hoi (opAt j hjs) hei hej with h | h
              · exact postI j hij hjs h
              · exact (((disj_spec h).2.2.2.1 k hk).2 hdj).elim
            · show hpSet _ _ k = _
              rw [hpSet_ne hk]
              refine apps_hp_congr es s0 s0 0 rfl (fun j ej hej hdj => ?_)
              rw [Nat.zero_add]
              have hji : j ≠ i := by
                rintro rfl
                rw [hei] at hej
                obtain rfl := Option.some.inj hej
                exact hk hdj
              exact (hL'n j hji).symm
          have e1 := funext hfr
          have e2 := funext hhp
          cases h1 : (es[i]).app (apps s0 es (fun j => listed.getD j false) 0) with
          | mk f1 p1 =>
            cases h2 : apps s0 es (fun j => (listed.setIfInBounds i true).getD j false) 0 with
            | mk f2 p2 => rw [h1, h2] at e1 e2; simp only at e1 e2; rw [e1, e2]
        rw [← heq]; exact hr'

theorem stepQ_chain {s0 : ASt} {es : List Eff} {cl : List Nat} {Qr : Exit → Act → World → Prop} (hch : Chain P C ops 0 s0 es) (hn : dstsBelow ops C.n = true) : StepQ P C ops cl Qr s0 es := by
  intro i o e ho he
  have h := Chain.get es s0 0 i e hch he
  rw [Nat.zero_add] at h
  obtain ⟨h1, h2⟩ := h o ho (dstsBelow_spec hn ho)
  exact ⟨h1, fun s1 ha hb _ a w hr K hK => h2 s1 ha hb a w hr K _ hK⟩

/-! ### the last operation panics -/

theorem apps_snoc {em : Eff} : ∀ (es : List Eff) (s : ASt) (L : Nat → Bool) (i : Nat), L (i + es.length) = false → apps s (es ++ [em]) L i = apps s es L i
  | [], s, L, i, h => by
    simp only [List.nil_append, apps]
    rw [show L i = false from h]
    rfl
  | e :: es, s, L, i, h => by
    simp only [List.cons_append, apps]
    exact apps_snoc es _ L (i + 1) (by rw [← h]; simp only [List.length_cons]; congr 1; omega)
theorem appAll_snoc {em : Eff} : ∀ (es : List Eff) (s : ASt), appAll s (es ++ [em]) = em.app (appAll s es)
  | [], _ => rfl
  | _ :: es, _ => appAll_snoc es _
/-- an effect that nothing has -/
def Eff.bad (d : Option Nat) : Eff := ⟨d, .undef, [], [(0, .box .undef)]⟩
theorem bad_none {d : Option Nat} {s : ASt} {a : Act} {w : World} (h : Rel C ((Eff.bad d).app s) a w) : False := by
  obtain ⟨im, μ, hi⟩ := h
  have := hi.obj 0 (.box .undef) rfl
  obtain ⟨b, cells, T, _, _, h⟩ := this
  simp only [RepA] at h
/-- operation m, in this state, ends as Q says, whatever would follow -/
def PanS (P : Program) (C : Ctx) (ops : Array Oper) (Qr : Exit → Act → World → Prop) (m : Nat) (s : ASt) : Prop := ∀ a w, Rel C s a w → ∀ K : Act → World → Prop, wpOpIn (fen C.rd) 0 P ops Qr m K a w

theorem stepQ_pan {s0 : ASt} {es : List Eff} {cl : List Nat} {Qr : Exit → Act → World → Prop} {om : Oper} (hch : Chain P C ops 0 s0 es) (hn : dstsBelow ops C.n = true) (hm : ops[es.length]? = some om) (hsz : es.length + 1 = ops.size)
    (hfull : ∀ j, j < es.length → (cl.getD es.length 0).testBit j = true) (hP : PanS P C ops Qr es.length (appAll s0 es)) : StepQ P C ops cl Qr s0 (es ++ [Eff.bad om.dst]) := by
  have nb : ∀ i j : Nat, i ≤ j → Nat.blt j i = false := fun i j h => by rw [← Bool.not_eq_true]; intro hb; have := Nat.le_of_ble_eq_true hb; omega
  intro i o e ho he
  rcases Nat.lt_or_ge i es.length with h | h
  · rw [List.getElem?_append_left h] at he
    have h0 := Chain.get es s0 0 i e hch he
    rw [Nat.zero_add] at h0
    obtain ⟨h1, h2⟩ := h0 o ho (dstsBelow_spec hn ho)
    have e1 : apps s0 (es ++ [Eff.bad om.dst]) (fun k => Nat.blt k i) 0 = apps s0 es (fun k => Nat.blt k i) 0 := apps_snoc es s0 _ 0 (nb i (0 + es.length) (by omega))
    refine ⟨h1, fun s1 ha hb _ a w hr K hK => ?_⟩
    rw [e1] at ha hb
    exact h2 s1 ha hb a w hr K _ hK
  · have hi : i < ops.size := (Array.getElem?_eq_some_iff.1 ho).1
    obtain rfl : i = es.length := by omega
    obtain rfl : o = om := Option.some.inj (ho.symm.trans hm)
    rw [List.getElem?_append_right (Nat.le_refl _), Nat.sub_self] at he
    obtain rfl : Eff.bad o.dst = e := Option.some.inj he
    have e1 : apps s0 (es ++ [Eff.bad o.dst]) (fun k => Nat.blt k es.length) 0 = appAll s0 es :=
      (apps_snoc es s0 _ 0 (nb es.length (0 + es.length) (by omega))).trans (apps_all es s0 _ 0 (fun j hj => by rw [Nat.zero_add]; exact Nat.ble_eq_true_of_le hj))
    refine ⟨rfl, fun s1 _ _ hs a w hr K _ => ?_⟩
    rw [hs hfull hsz, e1] at hr
    exact hP a w hr K

end

theorem Rel.world {C : Ctx} {s : ASt} {a : Act} {w w' : World} (h : Rel C s a w) (hheap : w'.heap = w.heap) (hos : w'.os = w.os) (htape : w'.tape = w.tape) (hout : w'.output = w.output) : Rel C s a w' := by
  obtain ⟨im, μ, hi⟩ := h
  have hb : ∀ b : Nat, w'.heap[b]? = w.heap[b]? := fun b => by rw [hheap]
  have ev : Ev w im μ s.hp w' im μ s.hp := ⟨fun _ h => h, fun b _ => hb b, fun o ob ho => ⟨ob, ho, ObEv.refl _ _⟩⟩
  exact ⟨im, μ, hos.trans hi.os, htape.trans hi.tape, hout.trans hi.output, by rw [hheap]; exact hi.grow, fun b h1 h2 => (hb b).trans (hi.old b h1 h2), hi.imC, hi.imNew, fun b hb => by rw [hheap]; exact hi.imLt b hb,
    fun o b ho => by rw [hheap]; exact hi.sep o b ho, hi.inj, hi.dom, fun o ob ho => (hi.obj o ob ho).ev ev (fun b _ => hb b), fun g v hg => (hi.glob g v hg).ev ev, fun x => (hi.fr x).ev ev, hi.size, (by obtain ⟨rs, h1, h2⟩ := hi.defers; exact ⟨rs, h1, h2.of_heap hheap⟩), hi.pin⟩

section
variable {P : Program} {C : Ctx} {Q : AEx → ASt → Prop} {s s0 : ASt} {ops : Array Oper} {K : ASt → Prop}

/-- what 'checkD' looks at -/
def Eff.key (e : Eff) : Eff := ⟨e.dst, .undef, e.rd, e.wr.map fun p => (p.1, .box .undef)⟩
theorem disj_key (ops : Array Oper) (oi oj : Oper) (ei ej : Eff) : disj ops oi oj ei.key ej.key = disj ops oi oj ei ej := by
  unfold disj Eff.key
  simp only [List.all_map, List.any_map]
  rfl
theorem checkD_key (ops : Array Oper) (es : List Eff) (cl : List Nat) : checkD ops (es.map Eff.key) cl = checkD ops es cl := by
  unfold checkD
  simp only [List.length_map, List.getElem?_map]
  congr 1
  congr 1
  funext j
  cases ops[j]? with
  | none => rfl
  | some o =>
    simp only
    congr 1
    congr 1
    funext i
    congr 1
    cases ops[i]? <;> cases es[i]? <;> cases es[j]? <;> simp [disj_key]
/-- a region that draws, whose last operation may panic -/
def RunP (P : Program) (C : Ctx) (Q : AEx → ASt → Prop) (ops : Array Oper) (cl : List Nat) (i : Nat) (pre : List Eff) (s : ASt) (K : ASt → Prop) : Prop :=
  ∃ es, Chain P C ops i s es ∧ ((checkD ops (pre ++ es) cl = true ∧ K (appAll s es)) ∨
    ∃ om, ops[i + es.length]? = some om ∧ i + es.length + 1 = ops.size ∧ pre.length = i ∧ (∀ j, j < i + es.length → (cl.getD (i + es.length) 0).testBit j = true) ∧
      checkD ops (pre ++ es ++ [Eff.bad om.dst]) cl = true ∧ PanS P C ops (lft C Q) (i + es.length) (appAll s es))

def RunKP (P : Program) (C : Ctx) (Q : AEx → ASt → Prop) (ops : Array Oper) (cl : List Nat) (i : Nat) (ks : List Eff) (s : ASt) (K : ASt → Prop) : Prop :=
  ∀ pre : List Eff, pre.map Eff.key = ks.reverse → RunP P C Q ops cl i pre s K
theorem runKP_step {cl : List Nat} {i : Nat} {ks : List Eff} {e : Eff} {s : ASt} {K : ASt → Prop} (h : StepOK P C ops i s e) (hk : RunKP P C Q ops cl (i + 1) (e.key :: ks) (e.app s) K) : RunKP P C Q ops cl i ks s K := by
  intro pre hp
  obtain ⟨es, h1, h2⟩ := hk (pre ++ [e]) (by simp [hp])
  refine ⟨e :: es, ⟨h, h1⟩, ?_⟩
  rcases h2 with ⟨h2, h3⟩ | ⟨om, g1, g2, g3, g4, g5, g6⟩
  · exact .inl ⟨by simpa using h2, h3⟩
  · have e1 : i + 1 + es.length = i + (e :: es).length := by simp only [List.length_cons]; omega
    rw [e1] at g1 g2 g4 g6
    exact .inr ⟨om, g1, g2, by simpa using g3, g4, by simpa using g5, g6⟩
theorem runKP_end {cl : List Nat} {i : Nat} {ks : List Eff} {s : ASt} {K : ASt → Prop} (ls : List Eff) (hk : ks = ls) (hc : checkD ops ls.reverse cl = true) (h : K s) : RunKP P C Q ops cl i ks s K :=
  fun pre hp => ⟨[], trivial, .inl ⟨by rw [List.append_nil, ← checkD_key, hp, hk]; exact hc, h⟩⟩
theorem runKP_pan {cl : List Nat} {i : Nat} {ks : List Eff} {s : ASt} {K : ASt → Prop} {om : Oper} (hm : ops[i]? = some om) (hsz : i + 1 = ops.size) (hks : ks.length = i) (hfull : ∀ j, j < i → (cl.getD i 0).testBit j = true)
    (hc : checkD ops ((Eff.bad om.dst).key :: ks).reverse cl = true) (h : PanS P C ops (lft C Q) i s) : RunKP P C Q ops cl i ks s K := by
  intro pre hp
  refine ⟨[], trivial, .inr ⟨om, hm, hsz, ?_, hfull, ?_, h⟩⟩
  · have := congrArg List.length hp
    simpa [hks] using this
  · rw [List.append_nil, ← checkD_key]
    rw [List.reverse_cons, ← hp] at hc
    simpa using hc

theorem aw_region_drawP {id : Nat} {s : ASt} (cl : List Nat) (hm : P.follows .mixedOrders = true) (hn : dstsBelow ops C.n = true) (hk : RunKP P C Q ops cl 0 [] s (fun s' => Q .normal s')) : AW P C (.region id ops true) Q s := by
  obtain ⟨es, h1, h⟩ := hk [] rfl
  intro a w hr
  refine wpIn_region_any hm ?_
  have fin : ∀ (es' : List Eff), checkD ops es' cl = true → StepQ P C ops cl (lft C Q) s es' → (∀ a w, Rel C (appAll s es') a w → lft C Q .normal a w) → ∀ w', Rel C s a w' → wpAnyIn (fen C.rd) 0 P .any ops (lft C Q) ops.size (Array.replicate ops.size false) a w' := by
    intro es' hck hst hQ w' hr'
    refine draw_soundG hst hck hQ ops.size _ a _ (by simp) ?_ ?_ ?_
    · intro j o _ hl
      simp only [Array.getD_eq_getD_getElem?, Array.getElem?_replicate] at hl
      split at hl <;> simp at hl
    · have : ∀ n, cntU (fun j => (Array.replicate ops.size false).getD j false) n = n := by
        intro n
        induction n with
        | zero => rfl
        | succ n ih =>
          have : (Array.replicate ops.size false).getD n false = false := by
            simp only [Array.getD_eq_getD_getElem?, Array.getElem?_replicate]; split <;> rfl
          simp only [cntU, ih, this, cond_false]
      rw [this]; exact Nat.le_refl _
    · rw [apps_none _ _ _ _ (fun j _ => by simp only [Array.getD_eq_getD_getElem?, Array.getElem?_replicate]; split <;> rfl)]
      exact hr'
  rcases h with ⟨h2, h3⟩ | ⟨om, g1, g2, _, g4, g5, g6⟩
  · exact fin es (by simpa using h2) (stepQ_chain h1 hn) (fun a w hr => ⟨.normal, _, rfl, h3, hr⟩) _ (hr.world rfl rfl rfl rfl)
  · simp only [Nat.zero_add] at g1 g2 g4 g6
    refine fin (es ++ [Eff.bad om.dst]) (by simpa using g5) (stepQ_pan h1 hn g1 g2 g4 g6) (fun a w hr => ?_) _ (hr.world rfl rfl rfl rfl)
    rw [appAll_snoc] at hr
    exact (bad_none hr).elim

end
end Go.Vm
namespace Go.Vm

section
variable {P : Program} {C : Ctx}

/-- what operation o does, from every state that is as s at what o looks at -/
def OpOK (P : Program) (C : Ctx) (o : Oper) (e : Eff) (s : ASt) : Prop :=
  ∀ s1 : ASt, (∀ x ∈ o.op.operands.toList, s1.ev C x = s.ev C x) → (∀ k, (k ∈ e.rd ∨ k ∈ e.wr.map (·.1)) → s1.hp k = s.hp k) →
  ∀ im μ a w, Inv C im μ s1 a w → (∀ d, o.dst = some d → d < C.n) →
    ∃ v w' im' μ', ((execOp a.eval o).run P w = .ok (.value v) w' ∨ (v = Go.undef ∧ (execOp a.eval o).run P w = .ok .skip w')) ∧ Inv C im' μ' (e.app s1) (a.put o.dst v) w'

theorem wanted_none {o : Oper} (h : o.guard = none) (y : Nat → Option Bool) : Region.wanted o y = true := by simp [Region.wanted, h]

theorem looks_operand {ops : Array Oper} {o : Oper} {t : Tmp} (h : Operand.tmp t ∈ o.op.operands.toList) : t ∈ o.looksAt ops := by
  unfold Oper.looksAt
  exact List.mem_append.2 (.inl (List.mem_filterMap.2 ⟨.tmp t, h, rfl⟩))

theorem ev_agree {ops : Array Oper} {o : Oper} {s s1 : ASt} (h : ∀ x ∈ o.looksAt ops, s1.fr x = s.fr x) : ∀ x ∈ o.op.operands.toList, s1.ev C x = s.ev C x := by
  intro x hx
  cases x with
  | tmp t => exact h t (looks_operand hx)
  | _ => rfl

/-- the same, as what the walk asks -/
def OpW (P : Program) (C : Ctx) (o : Oper) (e : Eff) (s : ASt) : Prop :=
  ∀ s1 : ASt, (∀ x ∈ o.op.operands.toList, s1.ev C x = s.ev C x) → (∀ k, (k ∈ e.rd ∨ k ∈ e.wr.map (·.1)) → s1.hp k = s.hp k) →
  ∀ a w, Rel C s1 a w → (∀ d, o.dst = some d → d < C.n) → ∀ (K : Act → World → Prop) (Q : Exit → Act → World → Prop), (∀ a' w', Rel C (e.app s1) a' w' → K a' w') → o.wpIn (fen C.rd) 0 P a w K Q

theorem OpOK.w {o : Oper} {e : Eff} {s : ASt} (h : OpOK P C o e s) : OpW P C o e s := by
  intro s1 hop hhp a w hr hlt K Q hK
  obtain ⟨im, μ, hi⟩ := hr
  obtain ⟨v, w', im', μ', hrun, hi'⟩ := h s1 hop hhp im μ a w hi hlt
  refine ⟨fun f _ => fen_fn _ f, ?_⟩
  rw [Oper.semAt_eq _ _ _ (notDefer_of_run (hrun.imp id (·.2)))]
  rcases hrun with hrun | ⟨rfl, hrun⟩
  · rw [hrun]; exact hK _ _ ⟨im', μ', hi'⟩
  · rw [hrun]; exact hK _ _ ⟨im', μ', hi'⟩

/-- an operation without a guard -/
theorem step_plain {ops : Array Oper} {i : Nat} {o : Oper} {e : Eff} {s : ASt} (ho : ops[i]? = some o) (hg : o.guard = none) (hd : e.dst = o.dst) (h : OpW P C o e s) : StepOK P C ops i s e := by
  intro o' ho' hlt
  obtain rfl : o = o' := Option.some.inj (ho.symm.trans ho')
  refine ⟨hd, fun s1 hfr hhp a w hr K Q hK => ?_⟩
  unfold wpOpIn
  simp only [ho, wanted_none hg, if_true]
  exact h s1 (ev_agree hfr) hhp a w hr hlt K Q hK

theorem yielded_of {ops : Array Oper} {j g : Nat} {b : Bool} {a : Act} {s : ASt} {w : World} {im : Nat → Prop} {μ : Mu} (hj : (ops[j]?).bind (·.dst) = some g) (hg : g < C.n) (hs : s.fr g = .d .bool b) (hi : Inv C im μ s a w) :
    yielded ops a.tmps j = some b := by
  have hv := hi.fr g
  rw [hs] at hv
  have hsz : g < a.tmps.size := by rw [hi.size]; exact hg
  have : a.tmps.getD g Go.undef = .bool b := by
    generalize a.tmps.getD g Go.undef = v at hv
    obtain ⟨h1, h2⟩ := hv
    cases v <;> simp_all [RepA, RepD, Value.cells, vIsAgg, AV.isAgg, Ty.isAgg]
  unfold yielded
  rw [hj]
  simp only [Option.bind_some]
  rw [Array.getElem?_eq_getElem hsz]
  simp only [Array.getD_eq_getD_getElem?, Array.getElem?_eq_getElem hsz, Option.getD_some] at this
  rw [this]

theorem looks_guard {ops : Array Oper} {o : Oper} {j : Nat} {want : Bool} {g : Nat} (hg : o.guard = some (j, want)) (hj : (ops[j]?).bind (·.dst) = some g) : g ∈ o.looksAt ops := by
  unfold Oper.looksAt
  refine List.mem_append.2 (.inr ?_)
  rw [hg]
  simp [hj]

/-- a guarded operation that is wanted -/
theorem step_on {ops : Array Oper} {i j g : Nat} {want : Bool} {o : Oper} {e : Eff} {s : ASt} (ho : ops[i]? = some o) (hg : o.guard = some (j, want)) (hj : (ops[j]?).bind (·.dst) = some g) (hgn : g < C.n)
    (hs : s.fr g = .d .bool want) (hd : e.dst = o.dst) (h : OpW P C o e s) : StepOK P C ops i s e := by
  intro o' ho' hlt
  obtain rfl : o = o' := Option.some.inj (ho.symm.trans ho')
  refine ⟨hd, fun s1 hfr hhp a w hr K Q hK => ?_⟩
  obtain ⟨im, μ, hi⟩ := hr
  have hy := yielded_of hj hgn ((hfr g (looks_guard hg hj)).trans hs) hi
  have hw : Region.wanted o (yielded ops a.tmps) = true := by simp [Region.wanted, hg, hy]
  unfold wpOpIn
  simp only [ho, hw, if_true]
  exact h s1 (ev_agree hfr) hhp a w ⟨im, μ, hi⟩ hlt K Q hK

/-- nothing turns but one slot -/
theorem Inv.put {im : Nat → Prop} {μ : Mu} {s : ASt} {a : Act} {w w' : World} (hi : Inv C im μ s a w) (hheap : w'.heap = w.heap) (hos : w'.os = w.os) (htape : w'.tape = w.tape) (hout : w'.output = w.output)
    {dst : Option Nat} (hd : ∀ d, dst = some d → d < C.n) {av : AV} {v : Value} (hv : RepV w im μ s.hp av v) : Inv C im μ ⟨(s.put dst av).fr, s.hp⟩ (a.put dst v) w' := by
  have hb : ∀ b : Nat, w'.heap[b]? = w.heap[b]? := fun b => by rw [hheap]
  have ev : Ev w im μ s.hp w' im μ s.hp := ⟨fun _ h => h, fun b _ => hb b, fun o ob ho => ⟨ob, ho, ObEv.refl _ _⟩⟩
  exact hi.step ev hos htape hout (by rw [hheap]; exact Nat.le_refl _) (fun b _ _ => hb b) (fun b h => .inl h) (fun b h => by rw [hheap]; exact hi.imLt b h)
    (fun o b h => ⟨(hi.sep o b h).1, by rw [hheap]; exact (hi.sep o b h).2.1, .inl ⟨o, h⟩⟩) hi.inj hi.dom (fun o ob ho => (hi.obj o ob ho).ev ev (fun b _ => hb b)) dst hd av v (hv.ev ev)

theorem eff_plain_app (dst : Option Nat) (av : AV) (rd : List Nat) (s : ASt) : (Eff.app ⟨dst, av, rd, []⟩ s) = ⟨(s.put dst av).fr, s.hp⟩ := rfl

/-- a guarded operation that is not wanted -/
theorem skip_rep {w : World} {im : Nat → Prop} {μ : Mu} {hp : Hp} : RepV w im μ hp (.tup []) Go.undef := ⟨[], rfl, by simp [RepFs]⟩

theorem step_off {ops : Array Oper} {i j g : Nat} {want : Bool} {o : Oper} {s : ASt} (ho : ops[i]? = some o) (hg : o.guard = some (j, want)) (hj : (ops[j]?).bind (·.dst) = some g) (hgn : g < C.n)
    (hs : s.fr g = .d .bool (!want)) : StepOK P C ops i s ⟨o.dst, .tup [], [], []⟩ := by
  intro o' ho' hlt
  obtain rfl : o = o' := Option.some.inj (ho.symm.trans ho')
  refine ⟨rfl, fun s1 hfr hhp a w hr K Q hK => ?_⟩
  obtain ⟨im, μ, hi⟩ := hr
  have hy := yielded_of hj hgn ((hfr g (looks_guard hg hj)).trans hs) hi
  have hw : Region.wanted o (yielded ops a.tmps) = false := by simp [Region.wanted, hg, hy]
  unfold wpOpIn
  simp only [ho, hw, Bool.false_eq_true, if_false]
  refine ⟨fun f _ => fen_fn _ f, hK _ _ ⟨im, μ, ?_⟩⟩
  rw [eff_plain_app]
  exact hi.put rfl rfl rfl rfl hlt skip_rep

/-- the guard's own operation was left out -/
theorem step_skip {ops : Array Oper} {i j g : Nat} {want : Bool} {o : Oper} {s : ASt} (ho : ops[i]? = some o) (hg : o.guard = some (j, want)) (hj : (ops[j]?).bind (·.dst) = some g) (_hgn : g < C.n)
    (hs : s.fr g = .tup []) : StepOK P C ops i s ⟨o.dst, .tup [], [], []⟩ := by
  intro o' ho' hlt
  obtain rfl : o = o' := Option.some.inj (ho.symm.trans ho')
  refine ⟨rfl, fun s1 hfr hhp a w hr K Q hK => ?_⟩
  obtain ⟨im, μ, hi⟩ := hr
  have hv := hi.fr g
  rw [(hfr g (looks_guard hg hj)).trans hs] at hv
  obtain ⟨vs, hv, hvs⟩ := hv
  simp only [RepFs] at hvs
  subst hvs
  have hy : yielded ops a.tmps j = none := by
    unfold yielded
    rw [hj]
    rw [Array.getD_eq_getD_getElem?] at hv
    simp only [Option.bind_some]
    cases ht : a.tmps[g]? with
    | none => rfl
    | some u => rw [ht] at hv; simp only [Option.getD_some] at hv; subst hv; rfl
  have hw : Region.wanted o (yielded ops a.tmps) = false := by simp [Region.wanted, hg, hy]
  unfold wpOpIn
  simp only [ho, hw, Bool.false_eq_true, if_false]
  refine ⟨fun f _ => fen_fn _ f, hK _ _ ⟨im, μ, ?_⟩⟩
  rw [eff_plain_app]
  exact hi.put rfl rfl rfl rfl hlt skip_rep

/-- THE SCHEME: an operation that leaves the heap as it is -/
theorem ok_read {o : Oper} {s : ASt} {av : AV} (rd : List Nat)
    (h : ∀ (w : World) (im : Nat → Prop) (μ : Mu) (hp : Hp) (ρ : Operand → Value), (∀ x ∈ o.op.operands.toList, RepV w im μ hp (s.ev C x) (ρ x)) →
      (∀ k, k ∈ rd → hp k = s.hp k) → (∀ k ob, hp k = some ob → RepO w im μ hp (μ k) ob) →
      ∃ v w', (execOp ρ o).run P w = .ok (.value v) w' ∧ w'.heap = w.heap ∧ w'.os = w.os ∧ w'.tape = w.tape ∧ w'.output = w.output ∧ RepV w im μ hp av v) :
    OpOK P C o ⟨o.dst, av, rd, []⟩ s := by
  intro s1 hop hhp im μ a w hi hd
  obtain ⟨v, w', hrun, h1, h2, h3, h4, hv⟩ := h w im μ s1.hp a.eval (fun x hx => by rw [← hop x hx]; exact hi.ev x) (fun k hk => hhp k (.inl hk)) hi.obj
  exact ⟨v, w', im, μ, .inl hrun, by rw [eff_plain_app]; exact hi.put h1 h2 h3 h4 hd hv⟩

/-- nothing of memory is asked, and the world stays -/
theorem ok_pure {o : Oper} {s : ASt} {av : AV}
    (h : ∀ (w : World) (im : Nat → Prop) (μ : Mu) (hp : Hp) (ρ : Operand → Value), (∀ x ∈ o.op.operands.toList, RepV w im μ hp (s.ev C x) (ρ x)) →
      ∃ v, (execOp ρ o).run P w = .ok (.value v) w ∧ RepV w im μ hp av v) :
    OpOK P C o ⟨o.dst, av, [], []⟩ s :=
  ok_read [] fun w im μ hp ρ hx _ _ => by
    obtain ⟨v, hr, hv⟩ := h w im μ hp ρ hx
    exact ⟨v, w, hr, rfl, rfl, rfl, rfl, hv⟩

/-! ### scalars -/

/-- the value that an abstract scalar is -/
def scal : AV → Option Value
  | .d (.int k) n => some (.int k n)
  | .d .bool b => some (.bool b)
  | .d .str s => some (.string ⟨s.toArray⟩)
  | .nilif => some .nilIface
  | .nilp => some (.pointer none)
  | .nilfn => some .nilFunc
  | .nils => some (.slice none 0 0)
  | _ => none

theorem scal_eq {w : World} {im : Nat → Prop} {μ : Mu} {hp : Hp} {av : AV} {u v : Value} (h : scal av = some u) (hv : RepV w im μ hp av v) : v = u := by
  unfold scal at h
  split at h <;> first
    | (cases h; obtain ⟨h1, h2⟩ := hv; cases v <;> simp_all [RepA, RepD, Value.cells, vIsAgg, AV.isAgg, Ty.isAgg]; done)
    | cases h

theorem constAV_scal {v : Value} {av : AV} (h : constAV v = av) (w : World) (im : Nat → Prop) (μ : Mu) (hp : Hp) : RepV w im μ hp av v := h ▸ constAV_rep w im μ hp v

variable {s : ASt} {dst : Option Tmp} {ty : TypeId} {pos : String} {aft : Array Edge} {gd : Option (Nat × Bool)}

theorem ok_move {x : Operand} {av : AV} (hx : s.ev C x = av) : OpOK P C ⟨dst, .move x, ty, pos, aft, gd⟩ ⟨dst, av, [], []⟩ s :=
  ok_pure fun w im μ hp ρ h => ⟨ρ x, rfl, hx ▸ h x (by simp [Op.operands])⟩
theorem ok_assign {x : Operand} {av : AV} (hx : s.ev C x = av) : OpOK P C ⟨dst, .assign x, ty, pos, aft, gd⟩ ⟨dst, av, [], []⟩ s :=
  ok_pure fun w im μ hp ρ h => ⟨ρ x, rfl, hx ▸ h x (by simp [Op.operands])⟩

theorem ok_bin {bop : BinOp} {xt yt : TypeId} {x y : Operand} {u1 u2 r : Value} {av : AV} (hx : scal (s.ev C x) = some u1) (hy : scal (s.ev C y) = some u2)
    (hr : (do eqGuard bop xt x y u1 u2; binOp bop xt u1 u2) = (pure r : Sem Value)) (hav : constAV r = av) :
    OpOK P C ⟨dst, .binOp bop xt x y yt, ty, pos, aft, gd⟩ ⟨dst, av, [], []⟩ s :=
  ok_pure fun w im μ hp ρ h => by
    have e1 := scal_eq hx (h x (by simp [Op.operands]))
    have e2 := scal_eq hy (h y (by simp [Op.operands]))
    refine ⟨r, ?_, constAV_scal hav _ _ _ _⟩
    simp only [execOp, e1, e2, hr]
    rfl

/-- quotient and remainder: not by nought -/
theorem ok_quo {k : IntKind} {xt yt : TypeId} {x y : Operand} {a b : Int} (hx : s.ev C x = .d (.int k) a) (hy : s.ev C y = .d (.int k) b) (hb : b ≠ 0) :
    OpOK P C ⟨dst, .binOp .quo xt x y yt, ty, pos, aft, gd⟩ ⟨dst, .d (.int k) (k.wrap (a.tdiv b)), [], []⟩ s :=
  ok_pure fun w im μ hp ρ h => by
    have e1 := scal_eq (u := .int k a) (by rw [hx]; rfl) (h x (by simp [Op.operands]))
    have e2 := scal_eq (u := .int k b) (by rw [hy]; rfl) (h y (by simp [Op.operands]))
    refine ⟨.int k (k.wrap (a.tdiv b)), ?_, constAV_rep _ _ _ _ (.int k (k.wrap (a.tdiv b)))⟩
    simp only [execOp, e1, e2]
    simp [eqGuard, binOp, Op.intDiv, hb]
theorem ok_rem {k : IntKind} {xt yt : TypeId} {x y : Operand} {a b : Int} (hx : s.ev C x = .d (.int k) a) (hy : s.ev C y = .d (.int k) b) (hb : b ≠ 0) :
    OpOK P C ⟨dst, .binOp .rem xt x y yt, ty, pos, aft, gd⟩ ⟨dst, .d (.int k) (a.tmod b), [], []⟩ s :=
  ok_pure fun w im μ hp ρ h => by
    have e1 := scal_eq (u := .int k a) (by rw [hx]; rfl) (h x (by simp [Op.operands]))
    have e2 := scal_eq (u := .int k b) (by rw [hy]; rfl) (h y (by simp [Op.operands]))
    refine ⟨.int k (a.tmod b), ?_, constAV_rep _ _ _ _ (.int k (a.tmod b))⟩
    simp only [execOp, e1, e2]
    simp [eqGuard, binOp, Op.intDiv, hb]

theorem ok_shift {bop : BinOp} {k yk : IntKind} {xt yt : TypeId} {x y : Operand} {a b : Int} {r : Value} {av : AV} (hx : s.ev C x = .d (.int k) a) (hy : s.ev C y = .d (.int yk) b) (hb : 0 ≤ b)
    (hop : bop = .shl ∨ bop = .shr) (hr : r = (match bop with | .shl => .int k (k.wrap (a * 2 ^ (min b.toNat k.bits))) | _ => .int k (a.fdiv (2 ^ (min b.toNat k.bits))))) (hav : constAV r = av) :
    OpOK P C ⟨dst, .binOp bop xt x y yt, ty, pos, aft, gd⟩ ⟨dst, av, [], []⟩ s :=
  ok_pure fun w im μ hp ρ h => by
    have e1 := scal_eq (u := .int k a) (by rw [hx]; rfl) (h x (by simp [Op.operands]))
    have e2 := scal_eq (u := .int yk b) (by rw [hy]; rfl) (h y (by simp [Op.operands]))
    refine ⟨r, ?_, constAV_scal hav _ _ _ _⟩
    have hb' : ¬ b < 0 := by omega
    simp only [execOp, e1, e2]
    rcases hop with rfl | rfl <;> simp [eqGuard, binOp, Op.shift, hb', hr]

theorem ok_streq {xt yt : TypeId} {x y : Operand} {a b : List UInt8} (hx : s.ev C x = .d .str a) (hy : s.ev C y = .d .str b) :
    OpOK P C ⟨dst, .binOp .eql xt x y yt, ty, pos, aft, gd⟩ ⟨dst, .d .bool (a == b), [], []⟩ s :=
  ok_pure fun w im μ hp ρ h => by
    have e1 := scal_eq (u := .string ⟨a.toArray⟩) (by rw [hx]; rfl) (h x (by simp [Op.operands]))
    have e2 := scal_eq (u := .string ⟨b.toArray⟩) (by rw [hy]; rfl) (h y (by simp [Op.operands]))
    refine ⟨.bool (a == b), ?_, ⟨by simp [RepA, RepD, Value.cells], rfl⟩⟩
    simp only [execOp, e1, e2]
    simp [eqGuard, binOp, Op.stringOp]
theorem ok_strne {xt yt : TypeId} {x y : Operand} {a b : List UInt8} (hx : s.ev C x = .d .str a) (hy : s.ev C y = .d .str b) :
    OpOK P C ⟨dst, .binOp .neq xt x y yt, ty, pos, aft, gd⟩ ⟨dst, .d .bool (!(a == b)), [], []⟩ s :=
  ok_pure fun w im μ hp ρ h => by
    have e1 := scal_eq (u := .string ⟨a.toArray⟩) (by rw [hx]; rfl) (h x (by simp [Op.operands]))
    have e2 := scal_eq (u := .string ⟨b.toArray⟩) (by rw [hy]; rfl) (h y (by simp [Op.operands]))
    refine ⟨.bool (!(a == b)), ?_, ⟨by simp [RepA, RepD, Value.cells], rfl⟩⟩
    simp only [execOp, e1, e2]
    simp [eqGuard, binOp, Op.stringOp]

theorem ok_strcat {xt yt : TypeId} {x y : Operand} {a b : List UInt8} (hx : s.ev C x = .d .str a) (hy : s.ev C y = .d .str b) (hl : a.length + b.length < 2 ^ 62) :
    OpOK P C ⟨dst, .binOp .add xt x y yt, ty, pos, aft, gd⟩ ⟨dst, .d .str (a ++ b), [], []⟩ s :=
  ok_pure fun w im μ hp ρ h => by
    have e1 := scal_eq (u := .string ⟨a.toArray⟩) (by rw [hx]; rfl) (h x (by simp [Op.operands]))
    have e2 := scal_eq (u := .string ⟨b.toArray⟩) (by rw [hy]; rfl) (h y (by simp [Op.operands]))
    refine ⟨.string ⟨(a ++ b).toArray⟩, ?_, ⟨by simp [RepA, RepD, Value.cells], rfl⟩⟩
    have hsz : (⟨a.toArray⟩ : ByteArray).size = a.length := by simp [ByteArray.size]
    have hsz' : (⟨b.toArray⟩ : ByteArray).size = b.length := by simp [ByteArray.size]
    have happ : (⟨a.toArray⟩ : ByteArray) ++ ⟨b.toArray⟩ = ⟨(a ++ b).toArray⟩ := by
      apply ByteArray.ext; simp
    simp only [execOp, e1, e2]
    have hle : ¬ ((((a.length + b.length : Nat)) : Int) > IntKind.i64.max) := by
      have : IntKind.i64.max = 9223372036854775807 := by decide
      omega
    simp only [eqGuard, binOp, Op.stringOp, happ, hsz, hsz', if_neg hle]
    rfl

theorem ok_un {uop : UnOp} {xt : TypeId} {x : Operand} {u r : Value} {av : AV} (hx : scal (s.ev C x) = some u) (hr : Op.unary uop u = (pure r : Sem Value)) (hav : constAV r = av) :
    OpOK P C ⟨dst, .unOp uop xt x, ty, pos, aft, gd⟩ ⟨dst, av, [], []⟩ s :=
  ok_pure fun w im μ hp ρ h => by
    have e1 := scal_eq hx (h x (by simp [Op.operands]))
    refine ⟨r, ?_, constAV_scal hav _ _ _ _⟩
    simp only [execOp, e1, hr]
    rfl

theorem ok_pick_true {c x y : Operand} {av : AV} (hc : s.ev C c = .d .bool true) (hx : s.ev C x = av) : OpOK P C ⟨dst, .pick c x y, ty, pos, aft, gd⟩ ⟨dst, av, [], []⟩ s :=
  ok_pure fun w im μ hp ρ h => by
    have e1 := scal_eq (u := .bool true) (by rw [hc]; rfl) (h c (by simp [Op.operands]))
    refine ⟨ρ x, ?_, hx ▸ h x (by simp [Op.operands])⟩
    simp [execOp, e1, asBool]
theorem ok_pick_false {c x y : Operand} {av : AV} (hc : s.ev C c = .d .bool false) (hx : s.ev C y = av) : OpOK P C ⟨dst, .pick c x y, ty, pos, aft, gd⟩ ⟨dst, av, [], []⟩ s :=
  ok_pure fun w im μ hp ρ h => by
    have e1 := scal_eq (u := .bool false) (by rw [hc]; rfl) (h c (by simp [Op.operands]))
    refine ⟨ρ y, ?_, hx ▸ h y (by simp [Op.operands])⟩
    simp [execOp, e1, asBool]

/-! ### conversions -/
theorem ok_conv_int {k j : IntKind} {st dt : TypeId} {x : Operand} {n : Int} {d1 : TypeDesc} (hx : s.ev C x = .d (.int k) n) (h1 : P.underlying st = some d1) (h2 : P.underlying dt = some (.int j)) :
    OpOK P C ⟨dst, .convert st dt x, ty, pos, aft, gd⟩ ⟨dst, .d (.int j) (j.wrap n), [], []⟩ s :=
  ok_pure fun w im μ hp ρ h => by
    have e1 := scal_eq (u := .int k n) (by rw [hx]; rfl) (h x (by simp [Op.operands]))
    refine ⟨.int j (j.wrap n), ?_, constAV_rep _ _ _ _ (.int j (j.wrap n))⟩
    simp only [execOp, e1, convert, Sem.run_bind, run_underlying h1, run_underlying h2, Result.andThen_ok]
    cases d1 <;> rfl
theorem ok_conv_intflt {k : IntKind} {j : FloatKind} {st dt : TypeId} {x : Operand} {n : Int} {d1 : TypeDesc} (hx : s.ev C x = .d (.int k) n) (h1 : P.underlying st = some d1) (h2 : P.underlying dt = some (.float j)) :
    OpOK P C ⟨dst, .convert st dt x, ty, pos, aft, gd⟩ ⟨dst, .d (.flt j) (canonF j (j.nearest n)), [], []⟩ s :=
  ok_pure fun w im μ hp ρ h => by
    have e1 := scal_eq (u := .int k n) (by rw [hx]; rfl) (h x (by simp [Op.operands]))
    refine ⟨.float j (j.nearest n), ?_, constAV_rep _ _ _ _ (.float j (j.nearest n))⟩
    simp only [execOp, e1, convert, Sem.run_bind, run_underlying h1, run_underlying h2, Result.andThen_ok]
    cases d1 <;> rfl

/-! ### floats -/
theorem rep_flt {w : World} {im : Nat → Prop} {μ : Mu} {hp : Hp} {k : FloatKind} {b : Nat} {v : Value} (h : RepV w im μ hp (.d (.flt k) b) v) : ∃ r, v = .float k r ∧ canonF k r = b := by
  obtain ⟨⟨r, h1, h3⟩, h2⟩ := h
  refine ⟨r, ?_, h3⟩
  cases v <;> simp_all [Value.cells, vIsAgg, AV.isAgg, Ty.isAgg]

theorem read_nanW (k : FloatKind) : (k.format.read (nanW k)).isNaN = true := by cases k <;> decide +kernel

/-- what the formats' operations see of a word is the same for all NaNs -/
theorem canonF_cases (k : FloatKind) (r : Nat) : (canonF k r = r) ∨ ((k.format.read r).isNaN = true ∧ (k.format.read (canonF k r)).isNaN = true) := by
  unfold canonF fNaN
  by_cases h : (k.format.read r).isNaN = true
  · rw [if_pos h]; exact .inr ⟨h, read_nanW k⟩
  · rw [if_neg h]; exact .inl rfl

theorem sum_nan_l {x y : Ieee.Datum} (h : x.isNaN = true) : x.sum y = none := by cases x <;> simp_all [Ieee.Datum.isNaN, Ieee.Datum.sum]
theorem sum_nan_r {x y : Ieee.Datum} (h : y.isNaN = true) : x.sum y = none := by cases x <;> cases y <;> simp_all [Ieee.Datum.isNaN, Ieee.Datum.sum]
theorem product_nan_l {x y : Ieee.Datum} (h : x.isNaN = true) : x.product y = none := by cases x <;> simp_all [Ieee.Datum.isNaN, Ieee.Datum.product]
theorem product_nan_r {x y : Ieee.Datum} (h : y.isNaN = true) : x.product y = none := by cases x <;> cases y <;> simp_all [Ieee.Datum.isNaN, Ieee.Datum.product]
theorem quotient_nan_l {d : Nat} {x y : Ieee.Datum} (h : x.isNaN = true) : x.quotient d y = none := by cases x <;> simp_all [Ieee.Datum.isNaN, Ieee.Datum.quotient]
theorem quotient_nan_r {d : Nat} {x y : Ieee.Datum} (h : y.isNaN = true) : x.quotient d y = none := by cases x <;> cases y <;> simp_all [Ieee.Datum.isNaN, Ieee.Datum.quotient]
theorem order_nan_l {x y : Ieee.Datum} (h : x.isNaN = true) : x.order y = none := by cases x <;> simp_all [Ieee.Datum.isNaN, Ieee.Datum.order]
theorem order_nan_r {x y : Ieee.Datum} (h : y.isNaN = true) : x.order y = none := by cases x <;> cases y <;> simp_all [Ieee.Datum.isNaN, Ieee.Datum.order]
theorem opposite_nan {x : Ieee.Datum} : x.opposite.isNaN = x.isNaN := by cases x <;> rfl

/-- a function of two data that is none where one is a NaN -/
theorem canon2 {α : Type} (k : FloatKind) (f : Ieee.Datum → Ieee.Datum → Option α) (hl : ∀ x y, x.isNaN = true → f x y = none) (hr : ∀ x y, y.isNaN = true → f x y = none) (x y : Nat) :
    f (k.format.read x) (k.format.read y) = f (k.format.read (canonF k x)) (k.format.read (canonF k y)) := by
  rcases canonF_cases k x with hx | ⟨hx, hx'⟩
  · rcases canonF_cases k y with hy | ⟨hy, hy'⟩
    · rw [hx, hy]
    · rw [hr _ _ hy, hr _ _ hy']
  · rw [hl _ _ hx, hl _ _ hx']

def fbin (op : BinOp) (k : FloatKind) (x y : Nat) : Option Nat :=
  match op with
  | .add => k.format.add x y
  | .sub => k.format.sub x y
  | .mul => k.format.mul x y
  | .quo => k.format.div x y
  | _ => none

theorem fbin_canon (op : BinOp) (k : FloatKind) (x y : Nat) : fbin op k x y = fbin op k (canonF k x) (canonF k y) := by
  cases op <;> simp only [fbin, Ieee.Format.add, Ieee.Format.sub, Ieee.Format.mul, Ieee.Format.div]
  · exact congrArg (Option.map _) (canon2 k (fun a b => a.sum b) (fun _ _ h => sum_nan_l h) (fun _ _ h => sum_nan_r h) x y)
  · exact congrArg (Option.map _) (canon2 k (fun a b => a.sum b.opposite) (fun _ _ h => sum_nan_l h) (fun _ _ h => sum_nan_r (opposite_nan.trans h)) x y)
  · exact congrArg (Option.map _) (canon2 k (fun a b => a.product b) (fun _ _ h => product_nan_l h) (fun _ _ h => product_nan_r h) x y)
  · exact congrArg (Option.map _) (canon2 k (fun a b => a.quotient _ b) (fun _ _ h => quotient_nan_l h) (fun _ _ h => quotient_nan_r h) x y)

theorem order_canon (k : FloatKind) (x y : Nat) : k.format.order x y = k.format.order (canonF k x) (canonF k y) :=
  canon2 k (fun a b => a.order b) (fun _ _ h => order_nan_l h) (fun _ _ h => order_nan_r h) x y

/-- the four operations on floats, a NaN being the one -/
def fop (op : BinOp) (k : FloatKind) (x y : Nat) : Nat :=
  match fbin op k x y with
  | some r => canonF k r
  | none => nanW k

theorem nan_cut (k : FloatKind) (x y t : Nat) : canonF k ((Question.nanBits k x y).cut t) = nanW k := by
  unfold canonF
  rw [if_pos]
  unfold fNaN
  cases k with
  | f32 =>
    have h : ∀ a b, a < 2 → b < 2 ^ 23 - 1 → (Ieee.single.read (a * 2 ^ 31 + 0x7f800000 + 1 + b)).isNaN = true := by
      intro a b ha hb
      have hw : Ieee.single.signWeight = 2147483648 := by decide
      have hbi : Ieee.single.binade = 8388608 := by decide
      have hi : Ieee.single.infRung = 2139095040 := by decide
      unfold Ieee.Format.read
      simp only [hw, hbi, hi]
      have e : (a * 2 ^ 31 + 0x7f800000 + 1 + b) % 2147483648 = 0x7f800000 + 1 + b := by omega
      rw [e, if_neg (by omega), if_neg (by omega), if_neg (by omega)]; rfl
    exact h _ _ (Nat.mod_lt _ (by decide)) (Nat.mod_lt _ (by decide))
  | f64 =>
    have h : ∀ a b, a < 2 → b < 2 ^ 52 - 1 → (Ieee.double.read (a * 2 ^ 63 + 0x7ff0000000000000 + 1 + b)).isNaN = true := by
      intro a b ha hb
      have hw : Ieee.double.signWeight = 9223372036854775808 := by decide
      have hbi : Ieee.double.binade = 4503599627370496 := by decide
      have hi : Ieee.double.infRung = 9218868437227405312 := by decide
      unfold Ieee.Format.read
      simp only [hw, hbi, hi]
      have e : (a * 2 ^ 63 + 0x7ff0000000000000 + 1 + b) % 9223372036854775808 = 0x7ff0000000000000 + 1 + b := by omega
      rw [e, if_neg (by omega), if_neg (by omega), if_neg (by omega)]; rfl
    exact h _ _ (Nat.mod_lt _ (by decide)) (Nat.mod_lt _ (by decide))

theorem ok_fop {bop : BinOp} {k : FloatKind} {xt yt : TypeId} {x y : Operand} {a b : Nat} (hop : bop = .add ∨ bop = .sub ∨ bop = .mul ∨ bop = .quo) (hx : s.ev C x = .d (.flt k) a) (hy : s.ev C y = .d (.flt k) b) :
    OpOK P C ⟨dst, .binOp bop xt x y yt, ty, pos, aft, gd⟩ ⟨dst, .d (.flt k) (fop bop k a b), [], []⟩ s :=
  ok_read [] fun w im μ hp ρ h _ _ => by
    obtain ⟨r1, e1, c1⟩ := rep_flt (hx ▸ h x (by simp [Op.operands]))
    obtain ⟨r2, e2, c2⟩ := rep_flt (hy ▸ h y (by simp [Op.operands]))
    have hc := fbin_canon bop k r1 r2
    rw [c1, c2] at hc
    have hrun : (execOp ρ ⟨dst, .binOp bop xt x y yt, ty, pos, aft, gd⟩).run P w = (match fbin bop k r1 r2 with
        | some r => .ok (.value (.float k r)) w
        | none => .ok (.value (.float k ((Question.nanBits k r1 r2).cut (w.tape w.drawn (.nanBits k r1 r2))))) { w with drawn := w.drawn + 1 }) := by
      rcases hop with rfl | rfl | rfl | rfl <;> simp only [execOp, e1, e2, eqGuard, binOp, Op.floatArith, fbin] <;> simp <;> split <;> simp_all [Question.forced]
    rw [hc] at hrun
    unfold fop
    cases hf : fbin bop k a b with
    | some r =>
      rw [hf] at hrun
      exact ⟨_, _, hrun, rfl, rfl, rfl, rfl, ⟨by simp only [RepA, RepD, Value.cells]; exact ⟨r, rfl, rfl⟩, rfl⟩⟩
    | none =>
      rw [hf] at hrun
      exact ⟨_, _, hrun, rfl, rfl, rfl, rfl, ⟨by simp only [RepA, RepD, Value.cells]; exact ⟨_, rfl, nan_cut k _ _ _⟩, rfl⟩⟩

theorem ok_fcmp {bop : BinOp} {k : FloatKind} {xt yt : TypeId} {x y : Operand} {a b : Nat} {r : Value} {av : AV} (hop : bop = .eql ∨ bop = .neq ∨ bop = .lss ∨ bop = .leq ∨ bop = .gtr ∨ bop = .geq)
    (hx : s.ev C x = .d (.flt k) a) (hy : s.ev C y = .d (.flt k) b) (hr : Op.floatCmp bop k a b = (pure r : Sem Value)) (hav : constAV r = av) :
    OpOK P C ⟨dst, .binOp bop xt x y yt, ty, pos, aft, gd⟩ ⟨dst, av, [], []⟩ s :=
  ok_pure fun w im μ hp ρ h => by
    obtain ⟨r1, e1, c1⟩ := rep_flt (hx ▸ h x (by simp [Op.operands]))
    obtain ⟨r2, e2, c2⟩ := rep_flt (hy ▸ h y (by simp [Op.operands]))
    refine ⟨r, ?_, constAV_scal hav _ _ _ _⟩
    have hc : Op.floatCmp bop k r1 r2 = Op.floatCmp bop k a b := by
      unfold Op.floatCmp
      rw [order_canon k r1 r2, c1, c2]
    have hb : binOp bop xt (.float k r1) (.float k r2) = Op.floatCmp bop k r1 r2 := by
      rcases hop with rfl | rfl | rfl | rfl | rfl | rfl <;> simp [binOp]
    have hg : eqGuard bop xt x y (.float k r1) (.float k r2) = (pure () : Sem Unit) := by
      unfold eqGuard; rcases hop with rfl | rfl | rfl | rfl | rfl | rfl <;> rfl
    simp only [execOp, e1, e2, hb, hc, hr, hg]
    rfl

end
end Go.Vm
namespace Go.Vm

def AV.asize : AV → Nat
  | .d t _ => t.size
  | .pr a b => a.asize + b.asize
  | _ => 1

theorem RepA.length {w : World} {im : Nat → Prop} {μ : Mu} {hp : Hp} : ∀ (a : AV) (cs : List Value), RepA w im μ hp a cs → cs.length = a.asize
  | .undef, _, hr => by simp only [RepA] at hr
  | .d t x, cs, hr => by simp only [RepA] at hr; exact hr.length
  | .ip t x, cs, hr => by simp only [RepA] at hr; obtain ⟨b, off, rfl, _⟩ := hr; rfl
  | .op o p off, cs, hr => by simp only [RepA] at hr; obtain ⟨b, v, _, _, rfl⟩ := hr; rfl
  | .os o n, cs, hr => by simp only [RepA] at hr; obtain ⟨T, e, m, z, xs, _, _, v, rfl, _⟩ := hr; rfl
  | .oe o n i, cs, hr => by simp only [RepA] at hr; obtain ⟨T, e, m, z, xs, _, _, v, rfl, _⟩ := hr; rfl
  | .ow o n i l, cs, hr => by simp only [RepA] at hr; obtain ⟨T, e, m, z, xs, _, _, v, rfl, _⟩ := hr; rfl
  | .nils, cs, hr => by simp only [RepA] at hr; subst hr; rfl
  | .emp, cs, hr => by simp only [RepA] at hr; obtain ⟨a, rfl⟩ := hr; rfl
  | .pr a b, cs, hr => by
    simp only [RepA] at hr
    obtain ⟨c1, c2, rfl, h1, h2⟩ := hr
    rw [List.length_append, RepA.length a c1 h1, RepA.length b c2 h2]; rfl
  | .tup _, _, hr => by simp only [RepA] at hr
  | .fn f first cap, cs, hr => by simp only [RepA] at hr; obtain ⟨vs, us, rfl, _⟩ := hr; rfl
  | .nilfn, cs, hr => by simp only [RepA] at hr; subst hr; rfl
  | .iface t v, cs, hr => by simp only [RepA] at hr; obtain ⟨u, rfl, _⟩ := hr; rfl
  | .nilif, cs, hr => by simp only [RepA] at hr; subst hr; rfl
  | .nilp, cs, hr => by simp only [RepA] at hr; subst hr; rfl
  | .ref o, cs, hr => by simp only [RepA] at hr; obtain ⟨b, r, _, _, rfl⟩ := hr; rfl

def mkVal (agg : Bool) (cs : List Value) : Value := if agg then .agg cs.toArray else cs.headD Go.undef

theorem one_cells {v : Value} (h : v.oneCell' = true) : v.cells = #[v] ∧ vIsAgg v = false := by cases v <;> simp_all [Value.oneCell', Value.cells, vIsAgg]

theorem asize_one {a : AV} (h : a.isAgg = false) : a.asize = 1 := by
  cases a <;> first
    | rfl
    | (rename_i t x; cases t <;> simp_all [AV.isAgg, Ty.isAgg, AV.asize, Ty.size])
    | simp_all [AV.isAgg]

/-- the value whose cells they are stands for what they stand for -/
theorem RepA.toV {w : World} {im : Nat → Prop} {μ : Mu} {hp : Hp} {a : AV} {cs : List Value} (h : RepA w im μ hp a cs) : RepV w im μ hp a (mkVal a.isAgg cs) := by
  have key : RepA w im μ hp a (mkVal a.isAgg cs).cells.toList ∧ vIsAgg (mkVal a.isAgg cs) = a.isAgg := by
    cases hag : a.isAgg with
    | true => simp only [mkVal, if_true, Value.cells, vIsAgg]; exact ⟨h, trivial⟩
    | false =>
      have hl := RepA.length a cs h
      rw [asize_one hag] at hl
      have ho := RepA.one a cs h
      match cs, hl, ho, h with
      | [c], _, ho, h =>
        obtain ⟨h1, h2⟩ := one_cells (ho c (by simp))
        simp only [mkVal, Bool.false_eq_true, if_false, List.headD_cons, h1, h2]
        exact ⟨h, trivial⟩
  cases a <;> first
    | exact key
    | trivial
    | (simp only [RepA] at h)

def isAggD : TypeDesc → Bool
  | .struct _ | .array _ _ => true
  | _ => false

/-- what the program's table says of a type's size -/
structure TyS (P : Program) (t : TypeId) (n : Nat) (agg : Bool) : Prop where
  info : ∃ i, P.info? t = some i ∧ i.size = n
  und : ∃ d, P.underlying t = some d ∧ isAggD d = agg

section
variable {P : Program} {C : Ctx}

theorem run_isAgg' {t : TypeId} {n : Nat} {agg : Bool} (h : TyS P t n agg) (w : World) : (isAgg t).run P w = .ok agg w := by
  obtain ⟨d, hd, rfl⟩ := h.und
  simp only [isAgg, Sem.run_bind, run_underlying hd, Result.andThen_ok]
  cases d <;> rfl
theorem run_sizeOf' {t : TypeId} {n : Nat} {agg : Bool} (h : TyS P t n agg) (w : World) : (sizeOf t).run P w = .ok n w := by
  obtain ⟨i, hi, rfl⟩ := h.info
  simp [sizeOf, typeInfo, hi]

theorem addr_add (b off n : Nat) : (⟨b, off, none⟩ : Addr).add n = ⟨b, off + n, none⟩ := by unfold Addr.add; split <;> simp_all

theorem run_loadVar' {t : TypeId} {n : Nat} {agg : Bool} (h : TyS P t n agg) (w : World) {b off : Nat} {cs : List Value} (hc : CellsAt w b off cs) (hl : cs.length = n) (h1 : agg = false → n = 1) :
    (loadVar t ⟨b, off, none⟩).run P w = .ok (mkVal agg cs) w := by
  unfold loadVar
  simp only [Sem.run_bind, run_isAgg' h, Result.andThen_ok]
  cases agg with
  | true =>
    simp only [if_true, Sem.run_bind, run_sizeOf' h, Result.andThen_ok]
    have := run_loadCells_list (P := P) w ⟨b, off, none⟩ cs (fun j v hj => by rw [addr_add]; exact hc j v hj)
    rw [hl] at this
    simp [this, mkVal]
  | false =>
    have hn := h1 rfl
    match cs, hl, hc with
    | [c], _, hc =>
      have hcell := hc 0 c rfl
      simp only [Nat.add_zero] at hcell
      simp [run_load, hcell, mkVal]
    | [], hl, _ => simp at hl; omega
    | _ :: _ :: _, hl, _ => simp at hl; omega

/-! ### one object made or turned -/

def updMu (μ : Mu) (o : Nat) (pl : Pl) : Mu := fun x => bif Nat.beq x o then pl else μ x
theorem updMu_same (μ : Mu) (o : Nat) (pl : Pl) : updMu μ o pl o = pl := by simp [updMu]
theorem updMu_ne (μ : Mu) {o x : Nat} (pl : Pl) (h : x ≠ o) : updMu μ o pl x = μ x := by
  have : Nat.beq x o = false := by rw [← Bool.not_eq_true]; intro hb; exact h (Nat.eq_of_beq_eq_true hb)
  simp [updMu, this]
theorem hpSet_one (hp : Hp) (o : Nat) (ob : AObj) : hpSet hp [(o, ob)] o = some ob := by simp [hpSet, List.find?]
theorem hpSet_one_ne (hp : Hp) {o x : Nat} (ob : AObj) (h : x ≠ o) : hpSet hp [(o, ob)] x = hp x := hpSet_ne (by simpa using h)

/-- how the world may turn while one object is made or turned -/
structure WStep (w w' : World) (old : Option Nat) : Prop where
  os : w'.os = w.os
  tape : w'.tape = w.tape
  output : w'.output = w.output
  grow : w.heap.size ≤ w'.heap.size
  blk : ∀ b, b < w.heap.size → old ≠ some b → w'.heap[b]? = w.heap[b]?

theorem Inv.evObj {im : Nat → Prop} {μ : Mu} {s : ASt} {a : Act} {w w' : World} (hi : Inv C im μ s a w) {o : Nat} {ob' : AObj} {pl' : Pl}
    (hev : ∀ ob, s.hp o = some ob → ObEv ob (μ o) ob' pl') (hw : WStep w w' (μ o).blk) : Ev w im μ s.hp w' im (updMu μ o pl') (hpSet s.hp [(o, ob')]) := by
  refine ⟨fun _ h => h, fun b hb => hw.blk b (hi.imLt b hb) (fun e => (hi.sep o b e).1 hb), fun x ob hx => ?_⟩
  by_cases e : x = o
  · subst e
    exact ⟨ob', hpSet_one _ _ _, by rw [updMu_same]; exact hev ob hx⟩
  · exact ⟨ob, by rw [hpSet_one_ne _ _ e]; exact hx, by rw [updMu_ne _ _ e]; exact ObEv.refl _ _⟩

theorem Inv.obj1 {im : Nat → Prop} {μ : Mu} {s : ASt} {a : Act} {w w' : World} (hi : Inv C im μ s a w) {o : Nat} {ob' : AObj} {pl' : Pl}
    (hev : ∀ ob, s.hp o = some ob → ObEv ob (μ o) ob' pl') (hw : WStep w w' (μ o).blk)
    (hpl : ∀ b, pl'.blk = some b → b < w'.heap.size ∧ ((μ o).blk = some b ∨ w.heap.size ≤ b))
    (hrep : RepO w' im (updMu μ o pl') (hpSet s.hp [(o, ob')]) pl' ob') {dst : Option Nat} (hd : ∀ d, dst = some d → d < C.n) {av : AV} {v : Value}
    (hv : RepV w' im (updMu μ o pl') (hpSet s.hp [(o, ob')]) av v) :
    Inv C im (updMu μ o pl') ⟨(s.put dst av).fr, hpSet s.hp [(o, ob')]⟩ (a.put dst v) w' := by
  have ev := hi.evObj hev hw
  refine hi.step ev hw.os hw.tape hw.output hw.grow (fun b hb ho => hw.blk b hb (ho o)) (fun b h => .inl h) (fun b h => Nat.lt_of_lt_of_le (hi.imLt b h) hw.grow) ?_ ?_ ?_ ?_ dst hd av v hv
  · intro x b hx
    by_cases e : x = o
    · subst e
      rw [updMu_same] at hx
      obtain ⟨h1, h2⟩ := hpl b hx
      refine ⟨?_, h1, h2.imp (fun h => ⟨x, h⟩) id⟩
      rcases h2 with h2 | h2
      · exact (hi.sep x b h2).1
      · intro him; have := hi.imLt b him; omega
    · rw [updMu_ne _ _ e] at hx
      obtain ⟨h1, h2, _⟩ := hi.sep x b hx
      exact ⟨h1, Nat.lt_of_lt_of_le h2 hw.grow, .inl ⟨x, hx⟩⟩
  · intro x y b hx hy
    by_cases ex : x = o
    · by_cases ey : y = o
      · rw [ex, ey]
      · subst ex
        rw [updMu_same] at hx
        rw [updMu_ne _ _ ey] at hy
        rcases (hpl b hx).2 with h | h
        · exact hi.inj _ _ b h hy
        · have := (hi.sep y b hy).2.1; omega
    · by_cases ey : y = o
      · subst ey
        rw [updMu_same] at hy
        rw [updMu_ne _ _ ex] at hx
        rcases (hpl b hy).2 with h | h
        · exact hi.inj _ _ b hx h
        · have := (hi.sep x b hx).2.1; omega
      · rw [updMu_ne _ _ ex] at hx
        rw [updMu_ne _ _ ey] at hy
        exact hi.inj _ _ b hx hy
  · intro x hx
    by_cases e : x = o
    · subst e; rw [hpSet_one] at hx; cases hx
    · rw [hpSet_one_ne _ _ e] at hx
      rw [updMu_ne _ _ e]; exact hi.dom x hx
  · intro x ob hx
    by_cases e : x = o
    · subst e
      rw [hpSet_one] at hx
      obtain rfl := Option.some.inj hx
      rw [updMu_same]; exact hrep
    · rw [hpSet_one_ne _ _ e] at hx
      rw [updMu_ne _ _ e]
      refine (hi.obj x ob hx).ev ev (fun b hb => hw.blk b (hi.sep x b hb).2.1 (fun hob => e (hi.inj _ _ b hb hob)))

theorem wstep_alloc (w : World) (ob : Obj) (old : Option Nat) : WStep w (w.alloc ob) old :=
  ⟨rfl, rfl, rfl, by simp, fun b hb _ => heap_alloc_old w ob hb⟩

theorem newVar_run (t : TypeId) (v : Value) (w : World) : (newVar t v).run P w = .ok ⟨w.heap.size, 0, none⟩ (w.alloc (.cells v.cells t)) := by
  simp [newVar, newRow]

/-- a fresh variable -/
theorem Inv.newBox {im : Nat → Prop} {μ : Mu} {s : ASt} {a : Act} {w : World} (hi : Inv C im μ s a w) {d o : Nat} (hd : d < C.n) (h0 : s.hp o = none) {c : AV} {cells : Array Value} {T : TypeId}
    (hc : RepA w im μ s.hp c cells.toList) :
    Inv C im (updMu μ o (.at w.heap.size)) ⟨(s.put (some d) (.op o [] 0)).fr, hpSet s.hp [(o, .box c)]⟩ (a.put (some d) (.pointer (some ⟨w.heap.size, 0, none⟩))) (w.alloc (.cells cells T)) := by
  have hev : ∀ ob, s.hp o = some ob → ObEv ob (μ o) (.box c) (.at w.heap.size) := fun ob h => by rw [h0] at h; cases h
  have hw : WStep w (w.alloc (.cells cells T)) (μ o).blk := wstep_alloc _ _ _
  have ev := hi.evObj hev hw
  refine hi.obj1 hev hw ?_ ?_ (fun d' h => by cases h; exact hd) ?_
  · intro b hb
    simp only [Pl.blk, Option.some.injEq] at hb
    subst hb
    exact ⟨by simp, .inr (Nat.le_refl _)⟩
  · exact ⟨w.heap.size, cells, T, rfl, heap_alloc_new w _, RepA.ev ev _ _ hc⟩
  · refine ⟨?_, rfl⟩
    simp only [RepA, Value.cells]
    exact ⟨w.heap.size, c, updMu_same _ _ _, hpSet_one _ _ _, rfl⟩

variable {s : ASt} {dst : Option Tmp} {ty : TypeId} {pos : String} {aft : Array Edge} {gd : Option (Nat × Bool)}

theorem RepV.cells {w : World} {im : Nat → Prop} {μ : Mu} {hp : Hp} {a : AV} {v : Value} (h : RepV w im μ hp a v) (hu : match a with | .undef => false | .tup _ => false | _ => true) : RepA w im μ hp a v.cells.toList ∧ vIsAgg v = a.isAgg := by
  cases a <;> first
    | exact h
    | (simp at hu)

def AV.plain : AV → Bool
  | .undef => false
  | .tup _ => false
  | _ => true

theorem RepV.toA {w : World} {im : Nat → Prop} {μ : Mu} {hp : Hp} {a : AV} {v : Value} (h : RepV w im μ hp a v) (hu : a.plain = true) : RepA w im μ hp a v.cells.toList ∧ vIsAgg v = a.isAgg := by
  cases a <;> first
    | exact h
    | (simp [AV.plain] at hu)

theorem ok_box {d o : Nat} {t : TypeId} {x : Operand} {c : AV} (hx : s.ev C x = c) (hc : c.plain = true) (h0 : s.hp o = none) :
    OpOK P C ⟨some d, .box t x, ty, pos, aft, gd⟩ ⟨some d, .op o [] 0, [], [(o, .box c)]⟩ s := by
  intro s1 hop hhp im μ a w hi hd
  have hx1 : s1.ev C x = c := (hop x (by simp [Op.operands])).trans hx
  have h01 : s1.hp o = none := (hhp o (.inr (by simp))).trans h0
  have hr := (hx1 ▸ hi.ev x).toA hc
  refine ⟨_, _, im, _, .inl ?_, hi.newBox (cells := (a.eval x).cells) (T := t) (hd d rfl) h01 hr.1⟩
  simp only [execOp, Instr.box, Sem.run_bind, newVar_run, Result.andThen_ok]
  rfl

/-- the zero of a type -/
def zden : (t : Ty) → t.den
  | .int _ => (0 : Int)
  | .bool => false
  | .str => []
  | .flt _ => (0 : Nat)
  | .slice _ => []
  | .unit => ()
  | .pair a b => (zden a, zden b)
  | .arr n e => List.replicate n (zden e)
def zcells : Ty → List Value
  | .int k => [.int k 0]
  | .bool => [.bool false]
  | .str => [.string ⟨#[]⟩]
  | .flt k => [.float k 0]
  | .slice _ => [.slice none 0 0]
  | .unit => []
  | .pair a b => zcells a ++ zcells b
  | .arr n e => (List.replicate n (zcells e)).flatten

theorem RepL.replicate {α : Type} {R : List Value → α → Prop} {cs : List Value} {x : α} (h : R cs x) : ∀ n, RepL R (List.replicate n cs).flatten (List.replicate n x)
  | 0 => rfl
  | n + 1 => ⟨cs, (List.replicate n cs).flatten, by simp [List.replicate_succ], h, RepL.replicate h n⟩

theorem zcells_rep (w : World) (im : Nat → Prop) : ∀ t : Ty, RepD w im t (zcells t) (zden t)
  | .int _ => rfl
  | .bool => rfl
  | .str => rfl
  | .flt k => ⟨0, rfl, by cases k <;> decide +kernel⟩
  | .slice _ => ⟨none, 0, rfl, Nat.le_refl _, Nat.zero_le _, fun _ => rfl, rfl⟩
  | .unit => rfl
  | .pair a b => ⟨zcells a, zcells b, rfl, zcells_rep w im a, zcells_rep w im b⟩
  | .arr n e => ⟨by simp [zden], RepL.replicate (zcells_rep w im e) n⟩

/-- the zero value that the program's table has for a type -/
def TyZ (P : Program) (t : TypeId) (ty : Ty) : Prop := ∃ i z, P.info? t = some i ∧ i.zero = some z ∧ z.cells.toList = zcells ty

theorem run_zero {t : TypeId} {ty : Ty} (h : TyZ P t ty) (w : World) : ∃ z : Value, (zeroValue t).run P w = .ok z w ∧ z.cells.toList = zcells ty := by
  obtain ⟨i, z, hi, hz, hc⟩ := h
  exact ⟨z, by simp [zeroValue, typeInfo, hi, hz], hc⟩

/-! ### parts of a variable -/

inductive Sub : AV → List Nat → Nat → AV → Prop
  | here {v : AV} : Sub v [] 0 v
  | prH {a b : AV} {p : List Nat} {off : Nat} {u : AV} : Sub a p off u → Sub (.pr a b) (0 :: p) off u
  | prT {a b : AV} {i : Nat} {p : List Nat} {off : Nat} {u : AV} : Sub b (i :: p) off u → Sub (.pr a b) ((i + 1) :: p) (a.asize + off) u
  | dH {a b : Ty} {x : (Ty.pair a b).den} {p : List Nat} {off : Nat} {u : AV} : Sub (.d a x.1) p off u → Sub (.d (.pair a b) x) (0 :: p) off u
  | dT {a b : Ty} {x : (Ty.pair a b).den} {i : Nat} {p : List Nat} {off : Nat} {u : AV} : Sub (.d b x.2) (i :: p) off u → Sub (.d (.pair a b) x) ((i + 1) :: p) (a.size + off) u
  | arr {n : Nat} {e : Ty} {xs : List e.den} {y : e.den} {i : Nat} {p : List Nat} {off : Nat} {u : AV} : xs[i]? = some y → Sub (.d e y) p off u → Sub (.d (.arr n e) xs) (i :: p) (i * e.size + off) u

theorem Sub.sound {w : World} {im : Nat → Prop} {μ : Mu} {hp : Hp} {v : AV} {p : List Nat} {off : Nat} {u : AV} (h : Sub v p off u) :
    ∀ cs, RepA w im μ hp v cs → ∃ c1 c2 c3, cs = c1 ++ (c2 ++ c3) ∧ c1.length = off ∧ RepA w im μ hp u c2 := by
  induction h with
  | here => exact fun cs hr => ⟨[], cs, [], by simp, rfl, hr⟩
  | prH _ ih =>
    intro cs hr
    simp only [RepA] at hr
    obtain ⟨d1, d2, rfl, h1, h2⟩ := hr
    obtain ⟨c1, c2, c3, rfl, hl, hu⟩ := ih d1 h1
    exact ⟨c1, c2, c3 ++ d2, by simp, hl, hu⟩
  | prT _ ih =>
    intro cs hr
    simp only [RepA] at hr
    obtain ⟨d1, d2, rfl, h1, h2⟩ := hr
    obtain ⟨c1, c2, c3, rfl, hl, hu⟩ := ih d2 h2
    exact ⟨d1 ++ c1, c2, c3, by simp, by rw [List.length_append, RepA.length _ _ h1, hl], hu⟩
  | dH _ ih =>
    intro cs hr
    simp only [RepA] at hr
    obtain ⟨d1, d2, rfl, h1, h2⟩ := hr
    obtain ⟨c1, c2, c3, rfl, hl, hu⟩ := ih d1 (by simp only [RepA]; exact h1)
    exact ⟨c1, c2, c3 ++ d2, by simp, hl, hu⟩
  | dT _ ih =>
    intro cs hr
    simp only [RepA] at hr
    obtain ⟨d1, d2, rfl, h1, h2⟩ := hr
    obtain ⟨c1, c2, c3, rfl, hl, hu⟩ := ih d2 (by simp only [RepA]; exact h2)
    exact ⟨d1 ++ c1, c2, c3, by simp, by rw [List.length_append, RepD.length _ _ _ h1, hl], hu⟩
  | @arr n e xs y i p off u hx _ ih =>
    intro cs hr
    simp only [RepA] at hr
    obtain ⟨hn, hl⟩ := hr
    have hlen := RepL.length (RepD.length e) _ _ hl
    have hi : i < xs.length := (List.getElem?_eq_some_iff.1 hx).1
    obtain ⟨hg, hgl⟩ := RepL.get (RepD.length e) hl hx
    obtain ⟨c1, c2, c3, he, hl1, hu⟩ := ih _ (by simp only [RepA]; exact hg)
    refine ⟨cs.take (i * e.size) ++ c1, c2, c3 ++ cs.drop (i * e.size + e.size), ?_, ?_, hu⟩
    · have e1 : cs = cs.take (i * e.size) ++ ((cs.drop (i * e.size)).take e.size ++ cs.drop (i * e.size + e.size)) := by
        rw [← List.drop_drop, List.take_append_drop, List.take_append_drop]
      rw [he] at e1
      simpa using e1
    · rw [List.length_append, List.length_take, hlen, hl1, Nat.min_eq_left]
      exact Nat.mul_le_mul_right _ (by omega)

theorem AV.plain_of_RepA {w : World} {im : Nat → Prop} {μ : Mu} {hp : Hp} {a : AV} {cs : List Value} (h : RepA w im μ hp a cs) : a.plain = true := by
  cases a <;> first
    | rfl
    | (simp only [RepA] at h)

theorem ok_load_ip {t : TypeId} {x : Operand} {τ : Ty} {y : τ.den} (hx : s.ev C x = .ip τ y) (ht : TyS P t τ.size τ.isAgg) :
    OpOK P C ⟨dst, .load t x, ty, pos, aft, gd⟩ ⟨dst, .d τ y, [], []⟩ s :=
  ok_pure fun w im μ hp ρ h => by
    obtain ⟨hr, hag⟩ := hx ▸ h x (by simp [Op.operands])
    simp only [RepA] at hr
    obtain ⟨b, off, e, him, ds, hc, hd⟩ := hr
    have hv : ρ x = .pointer (some ⟨b, off, none⟩) := by
      generalize ρ x = v at e hag
      cases v <;> simp_all [Value.cells, vIsAgg, AV.isAgg]
    have hl := hd.length
    have hA : RepA w im μ hp (.d τ y) ds := by simp only [RepA]; exact hd
    refine ⟨mkVal τ.isAgg ds, ?_, hA.toV⟩
    simp only [execOp, hv, Instr.loadAt, Instr.sureAddr, Sem.run_bind, Sem.run_pure, Result.andThen_ok]
    rw [run_loadVar' ht w hc hl (fun hag => by have := asize_one (a := .d τ y) hag; simpa [AV.asize] using this)]
    rfl

theorem ptr_eq {w : World} {im : Nat → Prop} {μ : Mu} {hp : Hp} {o : Nat} {p : List Nat} {off : Nat} {v : Value} (h : RepV w im μ hp (.op o p off) v) :
    ∃ b u, μ o = .at b ∧ hp o = some (.box u) ∧ v = .pointer (some ⟨b, off, none⟩) := by
  obtain ⟨hr, hag⟩ := h
  simp only [RepA] at hr
  obtain ⟨b, u, h1, h2, h3⟩ := hr
  refine ⟨b, u, h1, h2, ?_⟩
  cases v <;> simp_all [Value.cells, vIsAgg, AV.isAgg]

theorem cellsAt_block {w : World} {b : Nat} {cells : Array Value} {T : TypeId} {fr : Nat × Nat} (h : w.heap[b]? = some (.cells cells T fr)) : CellsAt w b 0 cells.toList := by
  intro j v hj
  rw [Array.getElem?_toList] at hj
  simp [World.cell?, h, hj]

theorem ok_load_op {t : TypeId} {x : Operand} {o : Nat} {p : List Nat} {off off' : Nat} {v u : AV} (hx : s.ev C x = .op o p off) (hp : s.hp o = some (.box v)) (hs : Sub v p off' u) (ho : off' = off)
    (ht : TyS P t u.asize u.isAgg) : OpOK P C ⟨dst, .load t x, ty, pos, aft, gd⟩ ⟨dst, u, [o], []⟩ s :=
  ok_read [o] fun w im μ hp' ρ h hk hob => by
    subst ho
    obtain ⟨b, u', h1, h2, hv⟩ := ptr_eq (hx ▸ h x (by simp [Op.operands]))
    have hpo : hp' o = some (.box v) := (hk o (by simp)).trans hp
    obtain ⟨b', cells, T, he, hc, hr⟩ := hob o _ hpo
    obtain rfl : b' = b := by rw [h1] at he; cases he; rfl
    obtain ⟨c1, c2, c3, hcs, hl, hu⟩ := hs.sound _ hr
    have hca := cellsAt_block hc
    rw [hcs] at hca
    have hca2 := (CellsAt.append hca).2
    rw [Nat.zero_add, hl] at hca2
    have hca3 := (CellsAt.append hca2).1
    refine ⟨mkVal u.isAgg c2, w, ?_, rfl, rfl, rfl, rfl, hu.toV⟩
    simp only [execOp, hv, Instr.loadAt, Instr.sureAddr, Sem.run_bind, Sem.run_pure, Result.andThen_ok]
    rw [run_loadVar' ht w hca3 (RepA.length _ _ hu) (fun hag => asize_one hag)]
    rfl

/-! ### fields -/

/-- field f of the struct type t stands at offset k, and is not empty -/
def FldAt (P : Program) (t : TypeId) (f k : Nat) : Prop := ∃ fs fld i, P.underlying t = some (.struct fs) ∧ fs[f]? = some fld ∧ fld.offset = k ∧ P.info? fld.type = some i ∧ i.size ≠ 0

theorem run_fieldAt {t : TypeId} {f k : Nat} (h : FldAt P t f k) (w : World) (b off : Nat) : (Instr.fieldAt t (.pointer (some ⟨b, off, none⟩)) f).run P w = .ok (.pointer (some ⟨b, off + k, none⟩)) w := by
  obtain ⟨fs, fld, i, h1, h2, rfl, h4, h5⟩ := h
  simp [Instr.fieldAt, run_underlying h1, h2, Instr.sureAddr, fieldPlace, sizeOf, typeInfo, h4, h5, addr_add]

theorem ok_field_op {t : TypeId} {x : Operand} {f k o : Nat} {p p' : List Nat} {off off' : Nat} (hx : s.ev C x = .op o p off) (hf : FldAt P t f k) (_hp : p ++ [f] = p') (ho : off + k = off') :
    OpOK P C ⟨dst, .fieldAddr t x f, ty, pos, aft, gd⟩ ⟨dst, .op o p' off', [], []⟩ s :=
  ok_pure fun w im μ hp' ρ h => by
    subst ho
    obtain ⟨b, u', h1, h2, hv⟩ := ptr_eq (hx ▸ h x (by simp [Op.operands]))
    refine ⟨.pointer (some ⟨b, off + k, none⟩), ?_, ⟨?_, rfl⟩⟩
    · simp only [execOp, hv, Sem.run_bind, run_fieldAt hf, Result.andThen_ok]; rfl
    · simp only [RepA, Value.cells]
      exact ⟨b, u', h1, h2, rfl⟩

theorem ok_field_ip {t : TypeId} {x : Operand} {f k off' : Nat} {τ τ' : Ty} {y : τ.den} {y' : τ'.den} (hx : s.ev C x = .ip τ y) (hf : FldAt P t f k) (hs : Sub (.d τ y) [f] off' (.d τ' y')) (ho : off' = k) :
    OpOK P C ⟨dst, .fieldAddr t x f, ty, pos, aft, gd⟩ ⟨dst, .ip τ' y', [], []⟩ s :=
  ok_pure fun w im μ hp ρ h => by
    subst ho
    obtain ⟨hr, hag⟩ := hx ▸ h x (by simp [Op.operands])
    simp only [RepA] at hr
    obtain ⟨b, off, e, him, ds, hc, hd⟩ := hr
    have hv : ρ x = .pointer (some ⟨b, off, none⟩) := by
      generalize ρ x = v at e hag
      cases v <;> simp_all [Value.cells, vIsAgg, AV.isAgg]
    obtain ⟨c1, c2, c3, hcs, hl, hu⟩ := hs.sound (w := w) (im := im) (μ := μ) (hp := hp) ds (by simp only [RepA]; exact hd)
    subst hcs
    have hca2 := (CellsAt.append hc).2
    rw [hl] at hca2
    refine ⟨.pointer (some ⟨b, off + off', none⟩), ?_, ⟨?_, rfl⟩⟩
    · simp only [execOp, hv, Sem.run_bind, run_fieldAt hf, Result.andThen_ok]; rfl
    · simp only [RepA, Value.cells] at hu ⊢
      exact ⟨b, off + off', rfl, him, c2, (CellsAt.append hca2).1, hu⟩

/-! ### store -/

inductive SetA : AV → List Nat → Nat → AV → AV → Prop
  | here {v u : AV} : u.asize = v.asize → SetA v [] 0 u u
  | prH {a b a' : AV} {p : List Nat} {off : Nat} {u : AV} : SetA a p off u a' → SetA (.pr a b) (0 :: p) off u (.pr a' b)
  | prT {a b b' : AV} {i : Nat} {p : List Nat} {off : Nat} {u : AV} : SetA b (i :: p) off u b' → SetA (.pr a b) ((i + 1) :: p) (a.asize + off) u (.pr a b')
  | dHp {a b : Ty} {x : (Ty.pair a b).den} {a' : AV} {p : List Nat} {off : Nat} {u : AV} : SetA (.d a x.1) p off u a' → SetA (.d (.pair a b) x) (0 :: p) off u (.pr a' (.d b x.2))
  | dTp {a b : Ty} {x : (Ty.pair a b).den} {b' : AV} {i : Nat} {p : List Nat} {off : Nat} {u : AV} : SetA (.d b x.2) (i :: p) off u b' → SetA (.d (.pair a b) x) ((i + 1) :: p) (a.size + off) u (.pr (.d a x.1) b')
  | dH {a b : Ty} {x : (Ty.pair a b).den} {y : a.den} {p : List Nat} {off : Nat} {u : AV} : SetA (.d a x.1) p off u (.d a y) → SetA (.d (.pair a b) x) (0 :: p) off u (.d (.pair a b) (y, x.2))
  | dT {a b : Ty} {x : (Ty.pair a b).den} {y : b.den} {i : Nat} {p : List Nat} {off : Nat} {u : AV} : SetA (.d b x.2) (i :: p) off u (.d b y) → SetA (.d (.pair a b) x) ((i + 1) :: p) (a.size + off) u (.d (.pair a b) (x.1, y))
  | arr {n : Nat} {e : Ty} {xs : List e.den} {y y' : e.den} {i : Nat} {p : List Nat} {off : Nat} {u : AV} : xs[i]? = some y → SetA (.d e y) p off u (.d e y') →
      SetA (.d (.arr n e) xs) (i :: p) (i * e.size + off) u (.d (.arr n e) (xs.set i y'))

theorem SetA.sound {w : World} {im : Nat → Prop} {μ : Mu} {hp : Hp} {v : AV} {p : List Nat} {off : Nat} {u v' : AV} (h : SetA v p off u v') :
    ∀ cs, RepA w im μ hp v cs → ∀ ds, RepA w im μ hp u ds → ∃ c1 c2 c3, cs = c1 ++ (c2 ++ c3) ∧ c1.length = off ∧ c2.length = ds.length ∧ RepA w im μ hp v' (c1 ++ (ds ++ c3)) := by
  induction h with
  | here hsz => exact fun cs hr ds hd => ⟨[], cs, [], by simp, rfl, by rw [RepA.length _ _ hr, RepA.length _ _ hd, hsz], by simpa using hd⟩
  | prH _ ih =>
    intro cs hr ds hd
    simp only [RepA] at hr
    obtain ⟨d1, d2, rfl, h1, h2⟩ := hr
    obtain ⟨c1, c2, c3, rfl, hl, hl2, hu⟩ := ih d1 h1 ds hd
    exact ⟨c1, c2, c3 ++ d2, by simp, hl, hl2, by simp only [RepA]; exact ⟨_, d2, by simp, hu, h2⟩⟩
  | prT _ ih =>
    intro cs hr ds hd
    simp only [RepA] at hr
    obtain ⟨d1, d2, rfl, h1, h2⟩ := hr
    obtain ⟨c1, c2, c3, rfl, hl, hl2, hu⟩ := ih d2 h2 ds hd
    exact ⟨d1 ++ c1, c2, c3, by simp, by rw [List.length_append, RepA.length _ _ h1, hl], hl2, by simp only [RepA]; exact ⟨d1, _, by simp, h1, hu⟩⟩
  | dHp _ ih =>
    intro cs hr ds hd
    simp only [RepA] at hr
    obtain ⟨d1, d2, rfl, h1, h2⟩ := hr
    obtain ⟨c1, c2, c3, rfl, hl, hl2, hu⟩ := ih d1 (by simp only [RepA]; exact h1) ds hd
    exact ⟨c1, c2, c3 ++ d2, by simp, hl, hl2, by simp only [RepA]; exact ⟨_, d2, by simp, hu, h2⟩⟩
  | dTp _ ih =>
    intro cs hr ds hd
    simp only [RepA] at hr
    obtain ⟨d1, d2, rfl, h1, h2⟩ := hr
    obtain ⟨c1, c2, c3, rfl, hl, hl2, hu⟩ := ih d2 (by simp only [RepA]; exact h2) ds hd
    exact ⟨d1 ++ c1, c2, c3, by simp, by rw [List.length_append, RepD.length _ _ _ h1, hl], hl2, by simp only [RepA]; exact ⟨d1, _, by simp, h1, hu⟩⟩
  | dH _ ih =>
    intro cs hr ds hd
    simp only [RepA] at hr
    obtain ⟨d1, d2, rfl, h1, h2⟩ := hr
    obtain ⟨c1, c2, c3, rfl, hl, hl2, hu⟩ := ih d1 (by simp only [RepA]; exact h1) ds hd
    simp only [RepA] at hu
    exact ⟨c1, c2, c3 ++ d2, by simp, hl, hl2, by simp only [RepA]; exact ⟨_, d2, by simp, hu, h2⟩⟩
  | dT _ ih =>
    intro cs hr ds hd
    simp only [RepA] at hr
    obtain ⟨d1, d2, rfl, h1, h2⟩ := hr
    obtain ⟨c1, c2, c3, rfl, hl, hl2, hu⟩ := ih d2 (by simp only [RepA]; exact h2) ds hd
    simp only [RepA] at hu
    exact ⟨d1 ++ c1, c2, c3, by simp, by rw [List.length_append, RepD.length _ _ _ h1, hl], hl2, by simp only [RepA]; exact ⟨d1, _, by simp, h1, hu⟩⟩
  | @arr n e xs y y' i p off u hx _ ih =>
    intro cs hr ds hd
    simp only [RepA] at hr
    obtain ⟨hn, hl⟩ := hr
    have hlen := RepL.length (RepD.length e) _ _ hl
    have hi : i < xs.length := (List.getElem?_eq_some_iff.1 hx).1
    obtain ⟨hg, hgl⟩ := RepL.get (RepD.length e) hl hx
    obtain ⟨c1, c2, c3, he, hl1, hl2, hu⟩ := ih _ (by simp only [RepA]; exact hg) ds hd
    simp only [RepA] at hu
    have e1 : cs = cs.take (i * e.size) ++ ((cs.drop (i * e.size)).take e.size ++ cs.drop (i * e.size + e.size)) := by
      rw [← List.drop_drop, List.take_append_drop, List.take_append_drop]
    refine ⟨cs.take (i * e.size) ++ c1, c2, c3 ++ cs.drop (i * e.size + e.size), ?_, ?_, hl2, ?_⟩
    · rw [he] at e1
      simpa using e1
    · rw [List.length_append, List.length_take, hlen, hl1, Nat.min_eq_left]
      exact Nat.mul_le_mul_right _ (by omega)
    · simp only [RepA]
      refine ⟨by simpa using hn, ?_⟩
      have := RepL.set (RepD.length e) hl hi hu
      rw [Nat.add_mul, Nat.one_mul] at this
      simpa using this

theorem run_storeVar' {t : TypeId} {n : Nat} {agg : Bool} (h : TyS P t n agg) (w : World) {b off : Nat} {cells : Array Value} {T : TypeId} (hb : w.heap[b]? = some (.cells cells T (0, 0))) {v : Value} {c1 c2 c3 : List Value}
    (hcs : cells.toList = c1 ++ (c2 ++ c3)) (hl1 : c1.length = off) (hl2 : c2.length = v.cells.toList.length) (hn : v.cells.toList.length = n) (h1 : ∀ x ∈ v.cells.toList, x.oneCell' = true) :
    (storeVar t ⟨b, off, none⟩ v).run P w = .ok () (w.setRow b (c1 ++ (v.cells.toList ++ c3)).toArray) := by
  have hsz : v.cells.size = n := by rw [← hn]; simp
  have hfit : off + 0 + v.cells.toList.length ≤ cells.size := by
    rw [← Array.length_toList, hcs, List.length_append, List.length_append]; omega
  have hst := run_storeCells_at P b off T v.cells.toList 0 cells w hb hfit h1
  unfold storeVar
  simp only [Sem.run_bind, run_sizeOf' h, Result.andThen_ok, hsz]
  rw [if_neg (by simp)]
  simp only [hst]
  have e1 : cells.toList.take (off + 0) = c1 := by rw [hcs, Nat.add_zero, ← hl1, List.take_left]
  have e2 : cells.toList.drop (off + 0 + v.cells.toList.length) = c3 := by
    rw [hcs, Nat.add_zero, ← hl1, ← hl2, ← List.drop_drop, List.drop_left, List.drop_left]
  rw [e1, e2, List.append_assoc]

theorem ok_store_op {t : TypeId} {x y : Operand} {o : Nat} {p : List Nat} {off off' : Nat} {v u v' : AV} (hx : s.ev C x = .op o p off) (hy : s.ev C y = u) (hu : u.plain = true) (hp : s.hp o = some (.box v)) (hs : SetA v p off' u v')
    (ho : off' = off) {agg : Bool} (ht : TyS P t u.asize agg) : OpOK P C ⟨none, .store t x y, ty, pos, aft, gd⟩ ⟨none, .undef, [], [(o, .box v')]⟩ s := by
  intro s1 hop hhp im μ a w hi hd
  subst ho
  have hx1 : s1.ev C x = .op o p off' := (hop x (by simp [Op.operands])).trans hx
  have hy1 : s1.ev C y = u := (hop y (by simp [Op.operands])).trans hy
  have hp1 : s1.hp o = some (.box v) := (hhp o (.inr (by simp))).trans hp
  obtain ⟨b, u', h1, h2, hv⟩ := ptr_eq (hx1 ▸ hi.ev x)
  obtain ⟨hur, hua⟩ := (hy1 ▸ hi.ev y).toA hu
  obtain ⟨b', cells, T, he, hc, hr⟩ := hi.obj o _ hp1
  obtain rfl : b' = b := by rw [h1] at he; cases he; rfl
  obtain ⟨c1, c2, c3, hcs, hl1, hl2, hnew⟩ := hs.sound _ hr _ hur
  have hrun := run_storeVar' ht w hc hcs hl1 hl2 (RepA.length _ _ hur) (RepA.one _ _ hur)
  have hev : ∀ ob, s1.hp o = some ob → ObEv ob (μ o) (.box v') (.at b') := by
    intro ob hob
    rw [hp1] at hob
    obtain rfl := Option.some.inj hob
    exact h1.symm
  have hw : WStep w (w.setRow b' (c1 ++ ((a.eval y).cells.toList ++ c3)).toArray) (μ o).blk :=
    ⟨rfl, rfl, rfl, by simp [World.setRow], fun k _ hk => setRow_other w b' k _ (fun e => hk (by rw [h1, e]; rfl))⟩
  have ev := hi.evObj hev hw
  refine ⟨Go.undef, _, im, _, .inr ⟨rfl, ?_⟩, hi.obj1 (dst := none) hev hw ?_ ?_ (fun d h => by cases h) trivial⟩
  · simp only [execOp, hv, Instr.storeAt, Instr.sureAddr, Sem.run_bind, Sem.run_pure, Result.andThen_ok, hrun]
  · intro k hk
    cases hk
    have hlt : b' < w.heap.size := (Array.getElem?_eq_some_iff.1 hc).1
    exact ⟨by simpa [World.setRow] using hlt, .inl (by rw [h1]; rfl)⟩
  · exact ⟨b', _, T, rfl, setRow_heap w b' _ _ _ _ hc, RepA.ev ev _ _ (by simpa using hnew)⟩

/-! ### tuples, structs by value -/

theorem RepFs.get {w : World} {im : Nat → Prop} {μ : Mu} {hp : Hp} : ∀ {l : List AV} {vs : List Value} {i : Nat} {a : AV}, RepFs w im μ hp l vs → l[i]? = some a → ∃ v, vs[i]? = some v ∧ RepA w im μ hp a v.cells.toList ∧ vIsAgg v = a.isAgg
  | b :: l, vs, 0, a, h, ha => by
    simp only [RepFs] at h
    obtain ⟨v, us, rfl, h1, h2, _⟩ := h
    simp only [List.getElem?_cons_zero, Option.some.injEq] at ha
    subst ha
    exact ⟨v, rfl, h1, h2⟩
  | b :: l, vs, i + 1, a, h, ha => by
    simp only [RepFs] at h
    obtain ⟨v, us, rfl, _, _, h3⟩ := h
    obtain ⟨v', h4, h5⟩ := RepFs.get h3 (by simpa using ha)
    exact ⟨v', by simpa using h4, h5⟩
  | [], _, _, _, _, ha => by simp at ha

theorem RepV.ofA {w : World} {im : Nat → Prop} {μ : Mu} {hp : Hp} {a : AV} {v : Value} (h : RepA w im μ hp a v.cells.toList) (hag : vIsAgg v = a.isAgg) : RepV w im μ hp a v := by
  cases a <;> first
    | trivial
    | exact ⟨h, hag⟩
    | (simp only [RepA] at h)

theorem ok_extract {x : Operand} {i : Nat} {l : List AV} {av : AV} (hx : s.ev C x = .tup l) (hl : l[i]? = some av) : OpOK P C ⟨dst, .extract x i, ty, pos, aft, gd⟩ ⟨dst, av, [], []⟩ s :=
  ok_pure fun w im μ hp ρ h => by
    obtain ⟨vs, hv, hr⟩ := hx ▸ h x (by simp [Op.operands])
    obtain ⟨v, h1, h2, h3⟩ := RepFs.get hr hl
    refine ⟨v, ?_, RepV.ofA h2 h3⟩
    simp [execOp, hv, Instr.extract, h1]

/-- struct and array types by value: where a part stands, and how many cells it has -/
def FldV (P : Program) (t : TypeId) (f k n : Nat) (agg : Bool) : Prop := ∃ fs fld, P.underlying t = some (.struct fs) ∧ fs[f]? = some fld ∧ fld.offset = k ∧ TyS P fld.type n agg

theorem run_part {t : TypeId} {n : Nat} {agg : Bool} (h : TyS P t n agg) (w : World) {cs : Array Value} {c1 c2 c3 : List Value} (hcs : cs.toList = c1 ++ (c2 ++ c3)) (hl : c2.length = n) (h1 : agg = false → n = 1) :
    (part t cs c1.length).run P w = .ok (mkVal agg c2) w := by
  have hcs' : cs = (c1 ++ (c2 ++ c3)).toArray := by rw [← hcs]
  unfold part
  simp only [Sem.run_bind, run_isAgg' h, Result.andThen_ok]
  cases agg with
  | true =>
    simp only [if_true, Sem.run_bind, run_sizeOf' h, Result.andThen_ok, Sem.run_pure, mkVal]
    congr 2
    apply Array.ext'
    rw [hcs', Array.toList_extract]
    simp only [List.extract_eq_take_drop]
    rw [List.drop_left, show c1.length + n - c1.length = c2.length by omega, List.take_left]
  | false =>
    have hn := h1 rfl
    match c2, hl with
    | [c], _ =>
      have : cs[c1.length]? = some c := by rw [hcs']; simp
      simp [this, mkVal]
    | [], hl => simp at hl; omega
    | _ :: _ :: _, hl => simp at hl; omega

theorem ok_fieldV {t : TypeId} {x : Operand} {f k off' : Nat} {v u : AV} (hx : s.ev C x = v) (hv : v.plain = true) (hva : v.isAgg = true) (hs : Sub v [f] off' u) (hf : FldV P t f k u.asize u.isAgg) (ho : off' = k) :
    OpOK P C ⟨dst, .field t x f, ty, pos, aft, gd⟩ ⟨dst, u, [], []⟩ s :=
  ok_pure fun w im μ hp ρ h => by
    subst ho
    obtain ⟨hr, hag⟩ := (hx ▸ h x (by simp [Op.operands])).toA hv
    obtain ⟨fs, fld, hu, hfl, hoff, hts⟩ := hf
    obtain ⟨c1, c2, c3, hcs, hl, hu2⟩ := hs.sound _ hr
    obtain ⟨cells, hcell⟩ : ∃ cells, ρ x = .agg cells := by
      rw [hva] at hag
      generalize ρ x = v at hag
      cases v <;> simp_all [vIsAgg]
    rw [hcell] at hcs
    refine ⟨mkVal u.isAgg c2, ?_, hu2.toV⟩
    have hp := run_part hts w (cs := cells) hcs (RepA.length _ _ hu2) (fun hag => asize_one hag)
    simp only [execOp, hcell, Instr.field, Sem.run_bind, run_underlying hu, Result.andThen_ok, hfl, hoff, asAgg, Sem.run_pure]
    rw [← hl, hp]
    rfl

end
end Go.Vm
namespace Go.Vm

/-- more than any list of a proof here ever holds -/
def lim : Nat := 4294967296

section
variable {P : Program} {C : Ctx}

/-- t: a slice type, its elements of esz cells -/
def SlT (P : Program) (t : TypeId) (esz : Nat) : Prop := ∃ e i, P.underlying t = some (.slice e) ∧ P.info? e = some i ∧ i.size = esz
/-- t: an array type of n elements of esz cells -/
def ArT (P : Program) (t : TypeId) (n esz : Nat) : Prop := ∃ e i, P.underlying t = some (.array n e) ∧ P.info? e = some i ∧ i.size = esz

/-- an array that is somewhere, turning or not -/
theorem RepO.arr {w : World} {im : Nat → Prop} {μ : Mu} {hp : Hp} {pl : Pl} {T : TypeId} {e : Ty} {m : Nat} {z : Bool} {xs : List e.den} (h : RepO w im μ hp pl (.arr T e m z xs)) :
    (∃ a, pl = .nil a ∧ xs = []) ∨ ∃ b cap cs, (pl = .row b cap ∨ pl = .fz b cap) ∧ xs.length ≤ cap ∧ cap ≤ maxLen ∧ CellsAt w b 0 cs ∧ RepL (RepD w im e) cs xs := by
  rcases h with h | ⟨_, b, cap, cells, h1, h2, h3, h4, h5, h6⟩ | ⟨_, b, cap, cs, h1, h2, h3, h4, h5, h6⟩
  · exact .inl h
  · refine .inr ⟨b, cap, _, .inl h1, h3, h4, ?_, h6⟩
    have := (cellsAt_block h2).sub 0 (xs.length * e.size)
    simpa using this
  · exact .inr ⟨b, cap, cs, .inr h1, h3, h4, h5, h6⟩

/-- what a slice reads as -/
inductive Src (hp : Hp) : AV → (e : Ty) → List e.den → Prop
  | d {e : Ty} {xs : List e.den} : Src hp (.d (.slice e) xs) e xs
  | os {o n : Nat} {T : TypeId} {e : Ty} {z : Bool} {xs : List e.den} : hp o = some (.arr T e n z xs) → Src hp (.os o n) e xs
  | nils {e : Ty} : Src hp .nils e []
  | emp {e : Ty} : Src hp .emp e []

def AV.objs : AV → List Nat
  | .os o _ => [o]
  | .oe o _ _ => [o]
  | .ow o _ _ _ => [o]
  | .op o _ _ => [o]
  | _ => []

theorem Src.hp {hp hp' : Hp} {a : AV} {e : Ty} {xs : List e.den} (h : Src hp a e xs) (hk : ∀ k ∈ a.objs, hp' k = hp k) : Src hp' a e xs := by
  cases h with
  | d => exact .d
  | os h1 => exact .os ((hk _ (by simp [AV.objs])).trans h1)
  | nils => exact .nils
  | emp => exact .emp

def SrcV (w : World) (im : Nat → Prop) (e : Ty) (xs : List e.den) (v : Value) : Prop :=
  ∃ a cap, v = .slice a xs.length cap ∧ xs.length ≤ cap ∧ (xs = [] ∨ ∃ b off cs, a = some ⟨b, off, none⟩ ∧ CellsAt w b off cs ∧ RepL (RepD w im e) cs xs)

theorem slice_of_cells {v : Value} {a : Option Addr} {n cap : Nat} (h : v.cells.toList = [.slice a n cap]) (hag : vIsAgg v = false) : v = .slice a n cap := by
  cases v <;> simp_all [Value.cells, vIsAgg]

theorem Src.sound {w : World} {im : Nat → Prop} {μ : Mu} {hp : Hp} {a : AV} {e : Ty} {xs : List e.den} {v : Value} (h : Src hp a e xs) (hv : RepV w im μ hp a v)
    (hob : ∀ k ob, hp k = some ob → RepO w im μ hp (μ k) ob) : SrcV w im e xs v := by
  cases h with
  | d =>
    obtain ⟨hr, hag⟩ := hv
    simp only [RepA, RepD] at hr
    obtain ⟨ad, cap, hc, h1, h2, h0, h3⟩ := hr
    refine ⟨ad, cap, slice_of_cells hc hag, h1, ?_⟩
    cases ad with
    | none => exact .inl h3
    | some ad =>
      rcases h3 with h3 | ⟨hs, _, cs, h4, h5⟩
      · exact .inl h3
      · obtain ⟨b, off, sp⟩ := ad
        simp only at hs
        subst hs
        exact .inr ⟨b, off, cs, rfl, h4, h5⟩
  | @os o n T e z xs ho =>
    obtain ⟨hr, hag⟩ := hv
    simp only [RepA] at hr
    obtain ⟨T', e', m', z', xs', ho', hle, u, hc, h1, hpl⟩ := hr
    rw [ho] at ho'
    cases ho'
    have hpl2 := hpl rfl
    clear hpl
    rcases (hob o _ ho).arr with ⟨ad, hp', rfl⟩ | ⟨b, cap, cs, hp', h1', h2', h3', h4'⟩
    · rw [hp'] at hpl2
      simp only [PlSlice] at hpl2
      subst hpl2
      exact ⟨ad, 0, slice_of_cells hc hag, Nat.le_refl _, .inl rfl⟩
    · have hpl3 : u = .slice (some ⟨b, 0, none⟩) xs.length cap := by rcases hp' with hp' | hp' <;> rw [hp'] at hpl2 <;> exact hpl2
      subst hpl3
      exact ⟨some ⟨b, 0, none⟩, cap, slice_of_cells hc hag, h1', .inr ⟨b, 0, _, rfl, h3', h4'⟩⟩
  | nils =>
    obtain ⟨hr, hag⟩ := hv
    simp only [RepA] at hr
    exact ⟨none, 0, slice_of_cells hr hag, Nat.le_refl _, .inl rfl⟩
  | emp =>
    obtain ⟨hr, hag⟩ := hv
    simp only [RepA] at hr
    obtain ⟨ad, hr⟩ := hr
    exact ⟨ad, 0, slice_of_cells hr hag, Nat.le_refl _, .inl rfl⟩

variable {s : ASt} {dst : Option Tmp} {ty : TypeId} {pos : String} {aft : Array Edge} {gd : Option (Nat × Bool)}

theorem ok_len_slice {x : Operand} {t : TypeId} {e : Ty} {xs : List e.den} {av : AV} {esz : Nat} (hx : s.ev C x = av) (hs : Src s.hp av e xs) (ht : SlT P t esz) :
    OpOK P C ⟨dst, .call ⟨.builtin .len, #[x], #[t]⟩, ty, pos, aft, gd⟩ ⟨dst, .d (.int .i64) (xs.length : Int), av.objs, []⟩ s :=
  ok_read av.objs fun w im μ hp ρ h hk hob => by
    obtain ⟨ad, cap, hv, _⟩ := (hs.hp hk).sound (hx ▸ h x (by simp [Op.operands, Call.operands])) hob
    obtain ⟨et, i, h1, _, _⟩ := ht
    refine ⟨.int .i64 xs.length, w, ?_, rfl, rfl, rfl, rfl, constAV_rep _ _ _ _ (.int .i64 xs.length)⟩
    simp [execOp, resolve, invoke, builtin, hv, Builtin.len_, run_underlying h1, goInt]

theorem ok_len_str {x : Operand} {t : TypeId} {l : List UInt8} (hx : s.ev C x = .d .str l) (ht : P.underlying t = some .string) :
    OpOK P C ⟨dst, .call ⟨.builtin .len, #[x], #[t]⟩, ty, pos, aft, gd⟩ ⟨dst, .d (.int .i64) (l.length : Int), [], []⟩ s :=
  ok_pure fun w im μ hp ρ h => by
    have e1 := scal_eq (u := .string ⟨l.toArray⟩) (by rw [hx]; rfl) (h x (by simp [Op.operands, Call.operands]))
    refine ⟨.int .i64 l.length, ?_, constAV_rep _ _ _ _ (.int .i64 l.length)⟩
    have hsz : (⟨l.toArray⟩ : ByteArray).size = l.length := by simp [ByteArray.size]
    simp [execOp, resolve, invoke, builtin, e1, Builtin.len_, run_underlying ht, goInt, hsz]

theorem int_eq {w : World} {im : Nat → Prop} {μ : Mu} {hp : Hp} {k : IntKind} {n : Int} {v : Value} (h : RepV w im μ hp (.d (.int k) n) v) : v = .int k n := scal_eq (u := .int k n) rfl h

/-- an element's place in a slice that does not turn -/
theorem ok_index_d {x y : Operand} {t : TypeId} {e : Ty} {xs : List e.den} {k : IntKind} {n : Int} {z : e.den} (hx : s.ev C x = .d (.slice e) xs) (hy : s.ev C y = .d (.int k) n) (ht : SlT P t e.size) (h0 : 0 ≤ n) (hz : xs[n.toNat]? = some z) :
    OpOK P C ⟨dst, .indexAddr t x y, ty, pos, aft, gd⟩ ⟨dst, .ip e z, [], []⟩ s :=
  ok_pure fun w im μ hp ρ h => by
    obtain ⟨hr, hag⟩ := hx ▸ h x (by simp [Op.operands])
    have e2 := int_eq (hy ▸ h y (by simp [Op.operands]))
    simp only [RepA, RepD] at hr
    obtain ⟨ad, cap, hc, _, _, _, h3⟩ := hr
    have hv := slice_of_cells hc hag
    obtain ⟨et, i, h1, h2, h4⟩ := ht
    have hlt : n.toNat < xs.length := (List.getElem?_eq_some_iff.1 hz).1
    cases ad with
    | none => have h3' : xs = [] := h3; rw [h3'] at hlt; simp at hlt
    | some ad =>
      rcases h3 with h3 | ⟨hs, him, cs, h5, h6⟩
      · rw [h3] at hlt; simp at hlt
      · obtain ⟨b, off, sp⟩ := ad
        simp only at hs him h5
        subst hs
        obtain ⟨hg, hgl⟩ := RepL.get (RepD.length e) h6 hz
        refine ⟨.pointer (some ⟨b, off + n.toNat * e.size, none⟩), ?_, ⟨?_, rfl⟩⟩
        · have hlt' : n < (xs.length : Int) := by omega
          simp [execOp, hv, e2, Instr.indexAt, asIntOf, run_underlying h1, h0, hlt', sizeOf, typeInfo, h2, h4, addr_add]
        · simp only [RepA, Value.cells]
          exact ⟨b, off + n.toNat * e.size, rfl, him, _, h5.sub (n.toNat * e.size) e.size, hg⟩

/-- an element's place in an array that does not turn -/
theorem ok_index_ipArr {x y : Operand} {t : TypeId} {m : Nat} {e : Ty} {xs : List e.den} {k : IntKind} {n : Int} {z : e.den} (hx : s.ev C x = .ip (.arr m e) xs) (hy : s.ev C y = .d (.int k) n) (ht : ArT P t m e.size) (h0 : 0 ≤ n) (hz : xs[n.toNat]? = some z) :
    OpOK P C ⟨dst, .indexAddr t x y, ty, pos, aft, gd⟩ ⟨dst, .ip e z, [], []⟩ s :=
  ok_pure fun w im μ hp ρ h => by
    obtain ⟨hr, hag⟩ := hx ▸ h x (by simp [Op.operands])
    have e2 := int_eq (hy ▸ h y (by simp [Op.operands]))
    simp only [RepA] at hr
    obtain ⟨b, off, he, him, ds, hc, hd⟩ := hr
    have hv : ρ x = .pointer (some ⟨b, off, none⟩) := by
      generalize ρ x = v at he hag
      cases v <;> simp_all [Value.cells, vIsAgg, AV.isAgg]
    simp only [RepD] at hd
    obtain ⟨hm, hl⟩ := hd
    obtain ⟨et, i, h1, h2, h4⟩ := ht
    have hlt : n.toNat < xs.length := (List.getElem?_eq_some_iff.1 hz).1
    obtain ⟨hg, hgl⟩ := RepL.get (RepD.length e) hl hz
    refine ⟨.pointer (some ⟨b, off + n.toNat * e.size, none⟩), ?_, ⟨?_, rfl⟩⟩
    · have hlt' : n < (m : Int) := by omega
      simp [execOp, hv, e2, Instr.indexAt, asIntOf, run_underlying h1, h0, hlt', sizeOf, typeInfo, h2, h4, addr_add, Instr.sureAddr]
    · simp only [RepA, Value.cells]
      exact ⟨b, off + n.toNat * e.size, rfl, him, _, hc.sub (n.toNat * e.size) e.size, hg⟩

/-- an element's place in an array that is a variable, or part of one -/
theorem ok_index_opArr {x y : Operand} {t : TypeId} {m o : Nat} {p p' : List Nat} {off off1 off' : Nat} {v : AV} {e : Ty} {xs : List e.den} {k : IntKind} {n : Int} {z : e.den} (hx : s.ev C x = .op o p off) (hp : s.hp o = some (.box v))
    (hs : Sub v p off1 (.d (.arr m e) xs)) (hy : s.ev C y = .d (.int k) n) (ht : ArT P t m e.size) (h0 : 0 ≤ n) (hz : xs[n.toNat]? = some z) (_hp' : p ++ [n.toNat] = p') (ho : off + n.toNat * e.size = off') :
    OpOK P C ⟨dst, .indexAddr t x y, ty, pos, aft, gd⟩ ⟨dst, .op o p' off', [o], []⟩ s :=
  ok_read [o] fun w im μ hp' ρ h hk hob => by
    subst ho
    obtain ⟨b, u', h1', h2', hv⟩ := ptr_eq (hx ▸ h x (by simp [Op.operands]))
    have e2 := int_eq (hy ▸ h y (by simp [Op.operands]))
    have hpo : hp' o = some (.box v) := (hk o (by simp)).trans hp
    obtain ⟨b', cells, T, he, hc, hr⟩ := hob o _ hpo
    obtain ⟨c1, c2, c3, _, _, hu⟩ := hs.sound _ hr
    simp only [RepA, RepD] at hu
    obtain ⟨et, i, h1, h2, h4⟩ := ht
    have hlt : n.toNat < xs.length := (List.getElem?_eq_some_iff.1 hz).1
    have hm := hu.1
    refine ⟨.pointer (some ⟨b, off + n.toNat * e.size, none⟩), w, ?_, rfl, rfl, rfl, rfl, ⟨?_, rfl⟩⟩
    · have hlt' : n < (m : Int) := by omega
      simp [execOp, hv, e2, Instr.indexAt, asIntOf, run_underlying h1, h0, hlt', sizeOf, typeInfo, h2, h4, addr_add, Instr.sureAddr]
    · simp only [RepA, Value.cells]
      exact ⟨b, u', h1', h2', rfl⟩

/-- an element's place in an array of one's own -/
theorem ok_index_os {x y : Operand} {t : TypeId} {o m : Nat} {T : TypeId} {e : Ty} {fz : Bool} {xs : List e.den} {k : IntKind} {n : Int} {z : e.den} (hx : s.ev C x = .os o m) (ho : s.hp o = some (.arr T e m fz xs)) (hy : s.ev C y = .d (.int k) n)
    (ht : SlT P t e.size) (h0 : 0 ≤ n) (hz : xs[n.toNat]? = some z) : OpOK P C ⟨dst, .indexAddr t x y, ty, pos, aft, gd⟩ ⟨dst, .oe o m n.toNat, [o], []⟩ s :=
  ok_read [o] fun w im μ hp ρ h hk hob => by
    obtain ⟨hr, hag⟩ := hx ▸ h x (by simp [Op.operands])
    have e2 := int_eq (hy ▸ h y (by simp [Op.operands]))
    have hpo : hp o = some (.arr T e m fz xs) := (hk o (by simp)).trans ho
    simp only [RepA] at hr
    obtain ⟨T', e', m', z', xs', ho', hle, u, hc, h1, hpl⟩ := hr
    rw [hpo] at ho'
    cases ho'
    have hpl2 := hpl rfl
    clear hpl
    have hlt : n.toNat < xs.length := (List.getElem?_eq_some_iff.1 hz).1
    obtain ⟨et, i, h1', h2', h4'⟩ := ht
    rcases (hob o _ hpo).arr with ⟨ad, hp', rfl⟩ | ⟨b, cap, cs, hp', _⟩
    · simp at hlt
    · have hpl3 : u = .slice (some ⟨b, 0, none⟩) xs.length cap := by rcases hp' with hp' | hp' <;> rw [hp'] at hpl2 <;> exact hpl2
      subst hpl3
      have hv := slice_of_cells hc hag
      refine ⟨.pointer (some ⟨b, n.toNat * e.size, none⟩), w, ?_, rfl, rfl, rfl, rfl, ⟨?_, rfl⟩⟩
      · have hlt' : n < (xs.length : Int) := by omega
        simp [execOp, hv, e2, Instr.indexAt, asIntOf, run_underlying h1', h0, hlt', sizeOf, typeInfo, h2', h4', addr_add]
      · simp only [RepA, Value.cells]
        exact ⟨T, e, m, fz, xs, hpo, Nat.le_refl _, _, rfl, rfl, fun _ => ⟨b, cap, hp', rfl⟩⟩

/-- an element's place in a window -/
theorem ok_index_ow {x y : Operand} {t : TypeId} {o m j q : Nat} {T : TypeId} {e : Ty} {fz : Bool} {xs : List e.den} {k : IntKind} {n : Int} (hx : s.ev C x = .ow o m j q) (ho : s.hp o = some (.arr T e m fz xs)) (hy : s.ev C y = .d (.int k) n)
    (ht : SlT P t e.size) (h0 : 0 ≤ n) (hz : n < q) : OpOK P C ⟨dst, .indexAddr t x y, ty, pos, aft, gd⟩ ⟨dst, .oe o m (j + n.toNat), [o], []⟩ s :=
  ok_read [o] fun w im μ hp ρ h hk hob => by
    obtain ⟨hr, hag⟩ := hx ▸ h x (by simp [Op.operands])
    have e2 := int_eq (hy ▸ h y (by simp [Op.operands]))
    have hpo : hp o = some (.arr T e m fz xs) := (hk o (by simp)).trans ho
    simp only [RepA] at hr
    obtain ⟨T', e', m', z', xs', ho', hle, u, hc, h1, hpl⟩ := hr
    rw [hpo] at ho'
    cases ho'
    obtain ⟨b, cap, hp1, rfl⟩ := hpl rfl
    obtain ⟨et, i, h1', h2', h4'⟩ := ht
    have hv := slice_of_cells hc hag
    refine ⟨.pointer (some ⟨b, (j + n.toNat) * e.size, none⟩), w, ?_, rfl, rfl, rfl, rfl, ⟨?_, rfl⟩⟩
    · simp [execOp, hv, e2, Instr.indexAt, asIntOf, run_underlying h1', h0, hz, sizeOf, typeInfo, h2', h4', addr_add, Nat.add_mul]
    · simp only [RepA, Value.cells]
      exact ⟨T, e, m, fz, xs, hpo, Nat.le_refl _, _, rfl, rfl, fun _ => ⟨b, cap, hp1, rfl⟩⟩

theorem ok_load_oe {t : TypeId} {x : Operand} {o m i : Nat} {T : TypeId} {e : Ty} {fz : Bool} {xs : List e.den} {z : e.den} (hx : s.ev C x = .oe o m i) (ho : s.hp o = some (.arr T e m fz xs)) (hz : xs[i]? = some z) (ht : TyS P t e.size e.isAgg) :
    OpOK P C ⟨dst, .load t x, ty, pos, aft, gd⟩ ⟨dst, .d e z, [o], []⟩ s :=
  ok_read [o] fun w im μ hp ρ h hk hob => by
    obtain ⟨hr, hag⟩ := hx ▸ h x (by simp [Op.operands])
    have hpo : hp o = some (.arr T e m fz xs) := (hk o (by simp)).trans ho
    simp only [RepA] at hr
    obtain ⟨T', e', m', z', xs', ho', hle, u, hc, h1, hpl⟩ := hr
    rw [hpo] at ho'
    cases ho'
    obtain ⟨b, cap, hp1, rfl⟩ := hpl rfl
    have hlt : i < xs.length := (List.getElem?_eq_some_iff.1 hz).1
    rcases (hob o _ hpo).arr with ⟨ad, hp', rfl⟩ | ⟨b', cap', cs, hp', _, _, hb, hl⟩
    · simp at hlt
    · obtain ⟨rfl, rfl⟩ : b' = b ∧ cap' = cap := by
        rcases hp1 with hp1 | hp1 <;> rcases hp' with hp' | hp' <;> rw [hp1] at hp' <;> cases hp' <;> exact ⟨rfl, rfl⟩
      have hv : ρ x = .pointer (some ⟨b', i * e.size, none⟩) := by
        generalize ρ x = v at hc hag
        cases v <;> simp_all [Value.cells, vIsAgg, AV.isAgg]
      obtain ⟨hg, hgl⟩ := RepL.get (RepD.length e) hl hz
      have hA : RepA w im μ hp (.d e z) (List.take e.size (List.drop (i * e.size) cs)) := by simp only [RepA]; exact hg
      have hca2 := hb.sub (i * e.size) e.size
      rw [Nat.zero_add] at hca2
      refine ⟨mkVal e.isAgg _, w, ?_, rfl, rfl, rfl, rfl, hA.toV⟩
      simp only [execOp, hv, Instr.loadAt, Instr.sureAddr, Sem.run_bind, Sem.run_pure, Result.andThen_ok]
      rw [run_loadVar' ht w hca2 hgl (fun hag => by have := asize_one (a := .d e z) hag; simpa [AV.asize] using this)]
      rfl

/-! ### cuts -/

theorem run_sliceBound (w : World) {k : IntKind} {n : Int} {y : Nat} (h0 : 0 ≤ n) (h1 : n ≤ y) (c : BoundsCode) : (Instr.sliceBound (.int k n) y c).run P w = .ok n.toNat w := by
  simp [Instr.sliceBound, asIntOf, h0, h1]

/-- a bound that may be left out: the number that it comes to -/
def BndIs (C : Ctx) (s : ASt) (x : Option Operand) (dflt n : Nat) : Prop :=
  match x with
  | none => n = dflt
  | some x => ∃ (k : IntKind) (z : Int), s.ev C x = .d (.int k) z ∧ 0 ≤ z ∧ z.toNat = n

theorem run_bounds (w : World) {lo hi : Option Value} {len cap l h : Nat} (hlo : match lo with | none => l = 0 | some v => ∃ k z, v = .int k z ∧ 0 ≤ z ∧ z.toNat = l) (hhi : match hi with | none => h = len | some v => ∃ k z, v = .int k z ∧ 0 ≤ z ∧ z.toNat = h)
    (h1 : l ≤ h) (h2 : h ≤ cap) (b : Bool) : (Instr.sliceBounds b len cap lo hi none).run P w = .ok (l, h, cap) w := by
  cases lo with
  | none =>
    simp only at hlo; subst hlo
    cases hi with
    | none => simp only at hhi; subst hhi; simp [Instr.sliceBounds]
    | some v =>
      obtain ⟨k, z, rfl, hz, rfl⟩ := hhi
      simp [Instr.sliceBounds, run_sliceBound w hz (show z ≤ (cap : Int) by omega)]
  | some u =>
    obtain ⟨k', z', rfl, hz', rfl⟩ := hlo
    cases hi with
    | none => simp only at hhi; subst hhi; simp [Instr.sliceBounds, run_sliceBound w hz' (show z' ≤ ((h : Nat) : Int) by omega)]
    | some v =>
      obtain ⟨k, z, rfl, hz, rfl⟩ := hhi
      simp [Instr.sliceBounds, run_sliceBound w hz (show z ≤ (cap : Int) by omega), run_sliceBound w hz' (show z' ≤ ((z.toNat : Nat) : Int) by omega)]

theorem bnd_rep {s : ASt} {x : Option Operand} {dflt n : Nat} (h : BndIs C s x dflt n) {w : World} {im : Nat → Prop} {μ : Mu} {hp : Hp} {ρ : Operand → Value} (hr : ∀ o, x = some o → RepV w im μ hp (s.ev C o) (ρ o)) :
    match x.map ρ with | none => n = dflt | some v => ∃ k z, v = .int k z ∧ 0 ≤ z ∧ z.toNat = n := by
  cases x with
  | none => exact h
  | some o =>
    obtain ⟨k, z, he, h0, h1⟩ := h
    exact ⟨k, z, int_eq (he ▸ hr o rfl), h0, h1⟩

theorem ok_slice_d {t : TypeId} {x : Operand} {lo hi : Option Operand} {e : Ty} {xs : List e.den} {l h : Nat} (hx : s.ev C x = .d (.slice e) xs) (ht : SlT P t e.size) (hlo : BndIs C s lo 0 l) (hhi : BndIs C s hi xs.length h)
    (h1 : l ≤ h) (h2 : h ≤ xs.length) : OpOK P C ⟨dst, .slice t x lo hi none, ty, pos, aft, gd⟩ ⟨dst, .d (.slice e) ((xs.take h).drop l), [], []⟩ s :=
  ok_pure fun w im μ hp ρ hr => by
    obtain ⟨hA, hag⟩ := hx ▸ hr x (by simp [Op.operands])
    simp only [RepA, RepD] at hA
    obtain ⟨ad, cap, hc, h3, h4, h00, h5⟩ := hA
    have hv := slice_of_cells hc hag
    obtain ⟨et, i, hu, hi', hsz⟩ := ht
    have hb := run_bounds (P := P) w (len := xs.length) (cap := cap) (bnd_rep hlo (fun o ho => hr o (by subst ho; simp [Op.operands]))) (bnd_rep hhi (fun o ho => hr o (by subst ho; cases lo <;> simp [Op.operands]))) h1 (by omega) true
    refine ⟨.slice (if cap = l then ad else ad.map (·.add (l * e.size))) (h - l) (cap - l), ?_, ⟨?_, rfl⟩⟩
    · simp [execOp, hv, Instr.sliceAt, Instr.slice, run_underlying hu, hb, sizeOf, typeInfo, hi', hsz]
    · simp only [RepA, RepD, Value.cells]
      have hl : ((xs.take h).drop l).length = h - l := by rw [List.length_drop, List.length_take]; omega
      refine ⟨_, cap - l, by rw [hl], by omega, by omega, ?_, ?_⟩
      · split
        · intro hn; rw [hn] at h00; have := h00 rfl; omega
        · intro hn
          rw [Option.map_eq_none_iff] at hn
          have := h00 hn; omega
      · by_cases hcl : cap = l
        · have : (xs.take h).drop l = [] := by
            apply List.eq_nil_of_length_eq_zero; omega
          rw [if_pos hcl, this]
          cases ad with
          | none => rfl
          | some ad => exact .inl rfl
        · rw [if_neg hcl]
          cases ad with
          | none => have h5' : xs = [] := h5; rw [h5']; simp [SliceAt]
          | some ad =>
            rcases h5 with h5 | ⟨hs, him, cs, h6, h7⟩
            · rw [h5]; exact .inl (by simp)
            · obtain ⟨b, off, sp⟩ := ad
              simp only at hs him h6
              subst hs
              simp only [Option.map_some, addr_add, SliceAt]
              refine .inr ⟨trivial, him, (cs.take (h * e.size)).drop (l * e.size), ?_, RepL.drop (RepD.length e) (RepL.take (RepD.length e) h7 h) l⟩
              intro j v hj
              rw [List.getElem?_drop, List.getElem?_take] at hj
              split at hj
              · have := h6 _ _ hj; rw [Nat.add_assoc]; exact this
              · cases hj

theorem ok_slice_str {t : TypeId} {x : Operand} {lo hi : Option Operand} {xs : List UInt8} {l h : Nat} (hx : s.ev C x = .d .str xs) (ht : P.underlying t = some .string) (hlo : BndIs C s lo 0 l) (hhi : BndIs C s hi xs.length h)
    (h1 : l ≤ h) (h2 : h ≤ xs.length) : OpOK P C ⟨dst, .slice t x lo hi none, ty, pos, aft, gd⟩ ⟨dst, .d .str ((xs.take h).drop l), [], []⟩ s :=
  ok_pure fun w im μ hp ρ hr => by
    have e1 := scal_eq (u := .string ⟨xs.toArray⟩) (by rw [hx]; rfl) (hr x (by simp [Op.operands]))
    have hsz : (⟨xs.toArray⟩ : ByteArray).size = xs.length := by simp [ByteArray.size]
    have hb := run_bounds (P := P) w (len := xs.length) (cap := xs.length) (bnd_rep hlo (fun o ho => hr o (by subst ho; simp [Op.operands]))) (bnd_rep hhi (fun o ho => hr o (by subst ho; cases lo <;> simp [Op.operands]))) h1 h2 false
    refine ⟨.string ⟨((xs.take h).drop l).toArray⟩, ?_, ⟨by simp [RepA, RepD, Value.cells], rfl⟩⟩
    have hex : (⟨xs.toArray⟩ : ByteArray).extract l h = ⟨((xs.take h).drop l).toArray⟩ := by
      apply ByteArray.ext
      rw [ByteArray.data_extract]
      apply Array.ext'
      rw [Array.toList_extract, List.extract_eq_take_drop, List.drop_take]
    simp [execOp, e1, Instr.sliceAt, Instr.slice, run_underlying ht, hsz, hb, hex]

/-- x[:0:0] -/
theorem ok_slice_emp {t : TypeId} {x hh mx : Operand} {lo : Option Operand} {e : Ty} {xs : List e.den} {av : AV} {esz : Nat} (hx : s.ev C x = av) (hs : Src s.hp av e xs) (ht : SlT P t esz) (hlo : BndIs C s lo 0 0) (hhi : s.ev C hh = .d (.int .i64) 0) (hmx : s.ev C mx = .d (.int .i64) 0) :
    OpOK P C ⟨dst, .slice t x lo (some hh) (some mx), ty, pos, aft, gd⟩ ⟨dst, .emp, av.objs, []⟩ s :=
  ok_read av.objs fun w im μ hp ρ hr hk hob => by
    obtain ⟨ad, cap, hv, hcap, _⟩ := (hs.hp hk).sound (hx ▸ hr x (by simp [Op.operands])) hob
    obtain ⟨et, i, hu, hi', hsz⟩ := ht
    have e1 := int_eq (hhi ▸ hr hh (by cases lo <;> simp [Op.operands]))
    have e2 := int_eq (hmx ▸ hr mx (by cases lo <;> simp [Op.operands]))
    have hl := bnd_rep (ρ := ρ) hlo (fun o ho => hr o (by subst ho; simp [Op.operands]))
    refine ⟨.slice ad 0 0, w, ?_, rfl, rfl, rfl, rfl, ⟨by simp only [RepA, Value.cells]; exact ⟨ad, rfl⟩, rfl⟩⟩
    cases lo with
    | none =>
      simp [execOp, hv, e1, e2, Instr.sliceAt, Instr.slice, run_underlying hu, Instr.sliceBounds, run_sliceBound, sizeOf, typeInfo, hi']
    | some lo =>
      obtain ⟨k, z, h1, h2, h3⟩ := hl
      obtain rfl : z = 0 := by omega
      simp [execOp, hv, h1, e1, e2, Instr.sliceAt, Instr.slice, run_underlying hu, Instr.sliceBounds, run_sliceBound, sizeOf, typeInfo, hi']

end
end Go.Vm
namespace Go.Vm

section
variable {P : Program} {C : Ctx} {s : ASt} {dst : Option Tmp} {ty : TypeId} {pos : String} {aft : Array Edge} {gd : Option (Nat × Bool)}

/-- what an abstract value is as data that asks for no object -/
inductive CoeD : AV → (t : Ty) → t.den → Prop
  | d {t : Ty} {x : t.den} : CoeD (.d t x) t x
  | nils {e : Ty} : CoeD .nils (.slice e) []
  | pr {a b : AV} {ta tb : Ty} {x : ta.den} {y : tb.den} : CoeD a ta x → CoeD b tb y → CoeD (.pr a b) (.pair ta tb) (x, y)

theorem CoeD.sound {w : World} {im : Nat → Prop} {μ : Mu} {hp : Hp} {a : AV} {t : Ty} {x : t.den} (h : CoeD a t x) : ∀ cs, RepA w im μ hp a cs → RepD w im t cs x := by
  induction h with
  | d => intro cs hr; simpa only [RepA] using hr
  | nils => intro cs hr; simp only [RepA] at hr; exact ⟨none, 0, hr, Nat.le_refl _, Nat.zero_le _, fun _ => rfl, rfl⟩
  | pr _ _ ih1 ih2 =>
    intro cs hr
    simp only [RepA] at hr
    obtain ⟨c1, c2, e, h1, h2⟩ := hr
    exact ⟨c1, c2, e, ih1 c1 h1, ih2 c2 h2⟩

theorem CoeD.plain {a : AV} {t : Ty} {x : t.den} (h : CoeD a t x) : a.plain = true := by cases h <;> rfl

/-- the element type of a slice type, with its zero -/
structure ElT (P : Program) (t T : TypeId) (e : Ty) : Prop where
  und : P.underlying t = some (.slice T)
  info : ∃ i z, P.info? T = some i ∧ i.size = e.size ∧ i.bytes ≤ 4096 ∧ i.zero = some z ∧ z.cells.toList = zcells e
  pos : 0 < e.size

/-! ### literals -/

/-- parts put into a list of zeros -/
def setAll {α : Type} : List α → List (Nat × α) → List α
  | l, [] => l
  | l, (i, x) :: r => setAll (l.set i x) r

theorem foldl_set (cells : Array Value) : ∀ (ds : List Value) (k : Nat) (acc : Array Value), k + ds.length ≤ acc.size → 
    ((ds.zipIdx k).foldl (fun cs (c, j) => cs.setIfInBounds j c) acc).toList = acc.toList.take k ++ ds ++ acc.toList.drop (k + ds.length)
  | [], k, acc, _ => by simp
  | d :: ds, k, acc, h => by
    simp only [List.zipIdx_cons, List.foldl_cons]
    simp only [List.length_cons] at h
    rw [foldl_set cells ds (k + 1) _ (by simp; omega)]
    simp only [Array.toList_setIfInBounds, List.length_cons]
    have hk : k < acc.toList.length := by simp; omega
    rw [List.take_set, List.drop_set]
    have e1 : (acc.toList.take (k + 1)).set k d = acc.toList.take k ++ [d] := by
      rw [List.take_succ_eq_append_getElem hk, List.set_append_right _ _ (by simp [List.length_take]; omega)]
      have : k - (acc.toList.take k).length = 0 := by rw [List.length_take]; omega
      rw [this]; rfl
    rw [e1, if_pos (by omega)]
    simp [Nat.add_assoc, Nat.add_comm 1]

theorem fold_off (off : Nat) (ds : List Value) : ∀ (acc : Array Value) (k : Nat), 
    (ds.zipIdx k).foldl (fun cs (c, j) => cs.setIfInBounds (off + j) c) acc = (ds.zipIdx (off + k)).foldl (fun cs (c, j) => cs.setIfInBounds j c) acc := by
  induction ds with
  | nil => intro acc k; rfl
  | cons d ds ih => intro acc k; simp only [List.zipIdx_cons, List.foldl_cons]; rw [ih]; rfl

theorem fill_step {place : Nat → Option (Nat × Nat)} {cells : Array Value} {i : Nat} {v : Value} {rest : List (Nat × Value)} {off size : Nat} (hp : place i = some (off, size)) (hsz : v.cells.toList.length = size) (hfit : off + size ≤ cells.size) :
    Instr.fill place cells ((i, v) :: rest) = Instr.fill place (cells.toList.take off ++ v.cells.toList ++ cells.toList.drop (off + size)).toArray rest := by
  have h1 : v.cells.size = size := by rw [← hsz]; simp
  have e : (v.cells.zipIdx.foldl (fun cs (c, j) => cs.setIfInBounds (off + j) c) cells) = (cells.toList.take off ++ v.cells.toList ++ cells.toList.drop (off + size)).toArray := by
    rw [← Array.foldl_toList, Array.toList_zipIdx, fold_off]
    apply Array.ext'
    rw [Nat.add_zero, foldl_set cells _ _ _ (by rw [hsz]; exact hfit), hsz]
  simp only [Instr.fill, hp, h1]
  rw [if_neg (by simp; omega), e]

theorem fill_list {w : World} {im : Nat → Prop} {e : Ty} : ∀ (parts : List (Nat × Value)) (ys : List (Nat × e.den)) (cells : Array Value) (xs : List e.den), RepL (RepD w im e) cells.toList xs →
    parts.length = ys.length → (∀ (k i : Nat) (v : Value), parts[k]? = some (i, v) → ∃ y, ys[k]? = some (i, y) ∧ RepD w im e v.cells.toList y ∧ i < xs.length) →
    ∃ out, Instr.fill (fun i => some (i * e.size, e.size)) cells parts = some out ∧ RepL (RepD w im e) out.toList (setAll xs ys)
  | [], [], cells, xs, h, _, _ => ⟨cells, rfl, h⟩
  | (i, v) :: parts, (i', y') :: ys, cells, xs, h, hl, hp => by
    obtain ⟨y, hy, hd, hi⟩ := hp 0 i v rfl
    simp only [List.getElem?_cons_zero, Option.some.injEq, Prod.mk.injEq] at hy
    obtain ⟨rfl, rfl⟩ := hy
    have hlen := RepL.length (RepD.length e) _ _ h
    have hle : (i' + 1) * e.size ≤ xs.length * e.size := Nat.mul_le_mul_right _ (by omega)
    rw [Nat.add_mul, Nat.one_mul] at hle
    rw [Array.length_toList] at hlen
    have hset := RepL.set (RepD.length e) h hi hd
    rw [Nat.add_mul, Nat.one_mul] at hset
    rw [fill_step (place := fun i => some (i * e.size, e.size)) rfl (RepD.length e _ _ hd) (by omega)]
    exact fill_list parts ys _ (xs.set i' y') (by simpa using hset) (by simpa using hl) (fun k j u hk => by
      obtain ⟨z, h1, h2, h3⟩ := hp (k + 1) j u (by simpa using hk)
      exact ⟨z, by simpa using h1, h2, by simpa using h3⟩)
  | [], _ :: _, _, _, _, hl, _ => by simp at hl
  | _ :: _, [], _, _, _, hl, _ => by simp at hl

theorem zero_cells_eq {e : Ty} {z : Array Value} (hz : z.toList = zcells e) : ∀ n : Nat, ((Array.range (n * e.size)).map (z[· % z.size]!)).toList = (List.replicate n (zcells e)).flatten := by
  have hsz : z.size = e.size := by
    rw [← Array.length_toList, hz, (zcells_rep (default : World) (fun _ => True) e).length]
  intro n
  rw [Array.toList_map, Array.toList_range, hsz]
  induction n with
  | zero => simp
  | succ n ih =>
    rw [Nat.add_mul, Nat.one_mul, List.range_add, List.map_append, ih, List.replicate_succ', List.flatten_append]
    congr 1
    simp only [List.map_map, List.flatten_cons, List.flatten_nil, List.append_nil]
    apply List.ext_getElem?
    intro j
    rw [← hz]
    by_cases hj : j < e.size
    · have hj' : j < z.size := by omega
      have hm : (n * e.size + j) % e.size = j := by rw [Nat.add_comm, Nat.add_mul_mod_self_right]; exact Nat.mod_eq_of_lt hj
      rw [List.getElem?_map, List.getElem?_range hj]
      simp [hm, hj']
    · rw [List.getElem?_eq_none (by simpa using hj), List.getElem?_eq_none (by simp; omega)]

theorem newRow_run (t : TypeId) (cs : Array Value) (w : World) : (newRow t cs).run P w = .ok ⟨w.heap.size, 0, none⟩ (w.alloc (.cells cs t)) := by
  simp [newRow]

/-- a fresh array -/
theorem Inv.newArr {im : Nat → Prop} {μ : Mu} {a : Act} {w w1 : World} (hi : Inv C im μ s a w) (h1 : w1.heap = w.heap) (h2 : w1.os = w.os) (h3 : w1.tape = w.tape) (h4 : w1.output = w.output) {d o : Nat} (hd : d < C.n) (h0 : s.hp o = none)
    {cells : Array Value} {T : TypeId} {e : Ty} {xs : List e.den} {cap : Nat} (hcap : xs.length ≤ cap) (hmax : cap ≤ maxLen) (hsz : cells.size = cap * e.size) (hc : RepL (RepD w im e) (cells.toList.take (xs.length * e.size)) xs) :
    Inv C im (updMu μ o (.row w.heap.size cap)) ⟨(s.put (some d) (.os o 0)).fr, hpSet s.hp [(o, .arr T e 0 false xs)]⟩ (a.put (some d) (.slice (some ⟨w.heap.size, 0, none⟩) xs.length cap)) (w1.alloc (.cells cells T)) := by
  have hev : ∀ ob, s.hp o = some ob → ObEv ob (μ o) (.arr T e 0 false xs) (.row w.heap.size cap) := fun ob h => by rw [h0] at h; cases h
  have hgs : w1.heap.size = w.heap.size := by rw [h1]
  have hw : WStep w (w1.alloc (.cells cells T)) (μ o).blk := ⟨h2, h3, h4, by simp [hgs], fun b hb _ => by rw [heap_alloc_old w1 _ (by omega), h1]⟩
  have ev := hi.evObj hev hw
  refine hi.obj1 hev hw ?_ ?_ (fun d' h => by cases h; exact hd) ?_
  · intro b hb
    simp only [Pl.blk, Option.some.injEq] at hb
    subst hb
    exact ⟨by simp [hgs], .inr (Nat.le_refl _)⟩
  · refine .inr (.inl ⟨rfl, w.heap.size, cap, cells, rfl, ?_, hcap, hmax, hsz, RepL.mono (RepD.mono ev.fim ev.fheap e) _ _ hc⟩)
    rw [← hgs]; exact heap_alloc_new w1 _
  · refine ⟨?_, rfl⟩
    simp only [RepA, Value.cells]
    exact ⟨T, e, 0, false, xs, hpSet_one _ _ _, Nat.le_refl _, _, rfl, rfl, fun _ => by rw [updMu_same]; rfl⟩

/-! ### make -/

theorem ok_makeSlice {d o : Nat} {t T : TypeId} {x y : Operand} {e : Ty} {k1 k2 : IntKind} {n : Int} (ht : ElT P t T e) (h0 : s.hp o = none) (hx : s.ev C x = .d (.int k1) n) (hy : s.ev C y = .d (.int k2) n) (hn0 : 0 ≤ n) (hn : n ≤ lim) :
    OpOK P C ⟨some d, .makeSlice t x y, ty, pos, aft, gd⟩ ⟨some d, .os o 0, [], [(o, .arr T e 0 false (List.replicate n.toNat (zden e)))]⟩ s := by
  intro s1 hop hhp im μ a w hi hd
  have h01 : s1.hp o = none := (hhp o (.inr (by simp))).trans h0
  have e1 := int_eq (((hop x (by simp [Op.operands])).trans hx) ▸ hi.ev x)
  have e2 := int_eq (((hop y (by simp [Op.operands])).trans hy) ▸ hi.ev y)
  obtain ⟨i, z, hi1, hi2, hi3, hz1, hz2⟩ := ht.info
  obtain ⟨m, rfl⟩ := Int.eq_ofNat_of_zero_le hn0
  have hm : m ≤ 4294967296 := by unfold lim at hn; omega
  have hw : IntKind.i64.wrap (m : Int) = m := by
    unfold IntKind.wrap IntKind.bits IntKind.signed
    simp only [Bool.true_and, decide_eq_true_eq, ge_iff_le]
    rw [Int.emod_eq_of_lt (by omega) (by omega), if_neg (by omega)]
  have hby : (i.bytes : Int) * m ≤ 2 ^ 48 := by
    have : i.bytes * m ≤ 4096 * 4294967296 := Nat.mul_le_mul hi3 hm
    have h2 : ((i.bytes * m : Nat) : Int) ≤ ((4096 * 4294967296 : Nat) : Int) := Int.ofNat_le.2 this
    rw [Int.natCast_mul] at h2
    omega
  have hzc := zero_cells_eq hz2 m
  have hnew := hi.newArr (w1 := w) rfl rfl rfl rfl (hd d rfl) h01 (cells := (Array.range (m * e.size)).map (z.cells[· % z.cells.size]!)) (T := T) (e := e) (xs := List.replicate m (zden e)) (cap := m) (by simp) (by unfold maxLen; omega) (by simp)
    (by rw [hzc, List.length_replicate, List.take_of_length_le (by
          have := (RepL.replicate (zcells_rep w im e) m).length (RepD.length e)
          rw [this]; simp)]; exact RepL.replicate (zcells_rep w im e) m)
  rw [List.length_replicate] at hnew
  refine ⟨_, _, im, _, .inl ?_, hnew⟩
  have hn1 : ¬ ((m : Int) < 0) := by omega
  have hn2 : ¬ ((i.bytes : Int) * m > 2 ^ 48) := by omega
  have hS : ∀ w, (sizeOf T).run P w = .ok e.size w := fun w => by simp [sizeOf, typeInfo, hi1, hi2]
  simp only [execOp, Instr.makeSlice, Sem.run_bind, run_underlying ht.und, Result.andThen_ok, e1, e2, asInt, asIntOf, Sem.run_pure, typeInfo, run_program, hi1, hw]
  simp only [Bool.or_eq_true, hn1, hn2, Int.lt_irrefl, or_self, decide_false, if_false, Bool.false_eq_true, gt_iff_lt]
  by_cases hm0 : m = 0
  · subst hm0
    have hE1 : ∀ f : Nat → Value, (Array.range 0).map f = #[] := fun f => Array.eq_empty_of_size_eq_zero (by simp)
    simp [newRow_run, run_askRoom, hS, hE1]
  · have hne : ¬ (m * e.size = 0) := by
      intro h
      rcases Nat.mul_eq_zero.1 h with h | h
      · exact hm0 h
      · have := ht.pos; omega
    simp [newRow_run, run_askRoom, hS, hne, zeroValue, typeInfo, hi1, hz1]

/-! ### append -/

theorem run_append_none {t t2 T T2 : TypeId} {i : TypeInfo} (ht : P.underlying t = some (.slice T)) (ht2 : P.underlying t2 = some (.slice T2)) (hi : P.info? T = some i) (w : World) (ty : TypeId) (base b : Option Addr) (n cap c : Nat) (hle : n ≤ cap) :
    (Builtin.append_ #[t, t2] ty #[.slice base n cap, .slice b 0 c]).run P w = .ok (.slice base n cap) w := by
  cases base <;> cases b <;> simp [Builtin.append_, run_underlying ht, run_underlying ht2, sizeOf, typeInfo, hi, Builtin.lenOf, hle, Builtin.firstCells, loadCells, loadCellsFrom, storeCells]

/-- what an append to an array of one's own comes to -/
theorem run_append_any {t T : TypeId} {e : Ty} (ht : ElT P t T e) (w : World) (im : Nat → Prop) (ty : TypeId) {pl : Pl} {xs ys : List e.den} {v0 v1 : Value}
    (hpl : PlSlice pl xs.length v0) (hrow : (∃ a, pl = .nil a ∧ xs = []) ∨ ∃ b cap cells, pl = .row b cap ∧ w.heap[b]? = some (.cells cells T (0, 0)) ∧ xs.length ≤ cap ∧ cap ≤ maxLen ∧ cells.size = cap * e.size ∧ RepL (RepD w im e) (cells.toList.take (xs.length * e.size)) xs)
    (hsrc : SrcV w im e ys v1) (hlim : xs.length + ys.length ≤ lim) (him : ∀ b, pl.blk = some b → ¬ im b) (_himlt : ∀ b, im b → b < w.heap.size) :
    ∃ v' w' pl', (Builtin.append_ #[t, t] ty #[v0, v1]).run P w = .ok v' w' ∧ WStep w w' pl.blk ∧ (∀ b, pl'.blk = some b → b < w'.heap.size ∧ (pl.blk = some b ∨ w.heap.size ≤ b)) ∧
      ((ys = [] ∧ pl' = pl) ∨ ys ≠ []) ∧ PlSlice pl' (xs ++ ys).length v' ∧ v'.oneCell' = true ∧
      ((∃ a, pl' = .nil a ∧ xs ++ ys = []) ∨ ∃ b cap cells, pl' = .row b cap ∧ w'.heap[b]? = some (.cells cells T (0, 0)) ∧ (xs ++ ys).length ≤ cap ∧ cap ≤ maxLen ∧ cells.size = cap * e.size ∧
        RepL (RepD w im e) (cells.toList.take ((xs ++ ys).length * e.size)) (xs ++ ys)) := by
  obtain ⟨i, z, hi1, hi2, hi3, hz1, hz2⟩ := ht.info
  obtain ⟨a1, c1, rfl, hc1, hs⟩ := hsrc
  by_cases hy : ys = []
  · subst hy
    rcases hrow with ⟨a, rfl, rfl⟩ | ⟨b, cap, cells, rfl, hb, h1, h2, h3, h4⟩
    · simp only [PlSlice] at hpl
      subst hpl
      exact ⟨_, w, .nil a, run_append_none ht.und ht.und hi1 w ty a a1 0 0 c1 (Nat.le_refl _), ⟨rfl, rfl, rfl, Nat.le_refl _, fun _ _ _ => rfl⟩, (fun b h => by cases h), .inl ⟨rfl, rfl⟩, rfl, rfl, .inl ⟨a, rfl, rfl⟩⟩
    · simp only [PlSlice] at hpl
      subst hpl
      have hlt : b < w.heap.size := (Array.getElem?_eq_some_iff.1 hb).1
      refine ⟨_, w, .row b cap, run_append_none ht.und ht.und hi1 w ty _ a1 _ cap c1 h1, ⟨rfl, rfl, rfl, Nat.le_refl _, fun _ _ _ => rfl⟩, fun k h => ?_, .inl ⟨rfl, rfl⟩, by simp [PlSlice], rfl, .inr ⟨b, cap, cells, rfl, hb, by simpa using h1, h2, h3, by simpa using h4⟩⟩
      cases h
      exact ⟨hlt, .inl rfl⟩
  · rcases hs with hs | ⟨sb, soff, scs, rfl, hsc, hsl⟩
    · exact (hy hs).elim
    · have hnl := RepL.length (RepD.length e) _ _ hsl
      have hone := RepL.one (RepD.one e) _ _ hsl
      have hyl : 0 < ys.length := List.length_pos_iff.2 hy
      have hlim' : xs.length + ys.length ≤ 4294967296 := hlim
      have hbytes : (xs.length + ys.length) * i.bytes ≤ 140737488355328 := by
        have := Nat.mul_le_mul hlim' hi3; omega
      have hnews : ∀ j v, scs[j]? = some v → w.cell? ((⟨sb, soff, none⟩ : Addr).add j) = some v := fun j v hj => by rw [addr_add]; exact hsc j v hj
      have grow : ∀ (b0 : Addr) (n0 cap0 : Nat) (olds : List Value), n0 = xs.length → cap0 < xs.length + ys.length → olds.length = n0 * e.size → (∀ j v, olds[j]? = some v → w.cell? (b0.add j) = some v) → RepL (RepD w im e) olds xs → 
          ∀ (oldBlk : Option Nat), ∃ v' w' pl', (Builtin.append_ #[t, t] ty #[.slice (some b0) n0 cap0, .slice (some ⟨sb, soff, none⟩) ys.length c1]).run P w = .ok v' w' ∧ WStep w w' oldBlk ∧ (∀ b, pl'.blk = some b → b < w'.heap.size ∧ (oldBlk = some b ∨ w.heap.size ≤ b)) ∧
            PlSlice pl' (xs ++ ys).length v' ∧ v'.oneCell' = true ∧
            (∃ b cap cells, pl' = .row b cap ∧ w'.heap[b]? = some (.cells cells T (0, 0)) ∧ (xs ++ ys).length ≤ cap ∧ cap ≤ maxLen ∧ cells.size = cap * e.size ∧ RepL (RepD w im e) (cells.toList.take ((xs ++ ys).length * e.size)) (xs ++ ys)) := by
        intro b0 n0 cap0 olds hn0 hcap0 hol holds hrepo oldBlk
        subst hn0
        have hr := run_append_grow (P := P) w t ty T i z ht.und hi1 hz1 b0 xs.length cap0 olds (by rw [hi2]; exact hol) holds ⟨sb, soff, none⟩ ys.length c1 scs (by rw [hi2]; exact hnl) hnews hcap0 (by omega) (growslice_fits hcap0 hbytes)
        have hge := grownCap_ge w (xs.length + ys.length) cap0 T
        have hcm := grownCap_le_maxLen w (xs.length + ys.length) cap0 T (by unfold maxLen; omega)
        refine ⟨_, _, .row w.heap.size (grownCap w (xs.length + ys.length) cap0 T), hr, ⟨rfl, rfl, rfl, by simp, fun k hk _ => heap_alloc_old w.drew _ hk⟩, fun b h => ?_, by simp [PlSlice], rfl, w.heap.size, _, _, rfl, heap_alloc_new w.drew _, by simpa using hge, hcm, ?_, ?_⟩
        · cases h; exact ⟨by simp, .inr (Nat.le_refl _)⟩
        · have hzsz : z.cells.size = e.size := by rw [← Array.length_toList, hz2, (zcells_rep (default : World) (fun _ => True) e).length]
          simp only [Array.size_append, List.size_toArray, size_zeroCells, hzsz, hol, hnl, ← Nat.add_mul]
          congr 1
          omega
        · have hlen : (xs ++ ys).length * e.size = (olds ++ scs).length := by rw [List.length_append, List.length_append, hol, hnl, Nat.add_mul]
          simp only [Array.toList_append]
          rw [hlen, List.take_left]
          exact RepL.append _ _ _ _ hrepo hsl
      rcases hrow with ⟨a, rfl, rfl⟩ | ⟨b, cap, cells, rfl, hb, h1, h2, h3, h4⟩
      · simp only [PlSlice] at hpl
        subst hpl
        cases a with
        | none =>
          have hr := run_append_nil (P := P) w t ty T i z ht.und hi1 hz1 ⟨sb, soff, none⟩ ys.length c1 scs (by rw [hi2]; exact hnl) hnews hyl (by simp at hlim'; omega) (by simp at hbytes; omega)
          have hge := grownCap_ge w ys.length 0 T
          have hcm := grownCap_le_maxLen w ys.length 0 T (by unfold maxLen; simp at hlim'; omega)
          refine ⟨_, _, .row w.heap.size (grownCap w ys.length 0 T), hr, ⟨rfl, rfl, rfl, by simp, fun k hk _ => heap_alloc_old w.drew _ hk⟩, fun b h => ?_, .inr hy, by simp [PlSlice], rfl, .inr ⟨w.heap.size, _, _, rfl, heap_alloc_new w.drew _, by simpa using hge, hcm, ?_, ?_⟩⟩
          · cases h; exact ⟨by simp, .inr (Nat.le_refl _)⟩
          · have hzsz : z.cells.size = e.size := by rw [← Array.length_toList, hz2, (zcells_rep (default : World) (fun _ => True) e).length]
            simp only [Array.size_append, List.size_toArray, size_zeroCells, hzsz, hnl, ← Nat.add_mul]
            congr 1
            omega
          · simp only [Array.toList_append, List.nil_append]
            rw [← hnl, List.take_left]
            exact hsl
        | some ad =>
          obtain ⟨v', w', pl', g1, g2, g3, g4, g5, g6⟩ := grow ad 0 0 [] rfl (by simpa using hyl) (by simp) (by simp) rfl none
          exact ⟨v', w', pl', g1, g2, g3, .inr hy, g4, g5, .inr g6⟩
      · simp only [PlSlice] at hpl
        subst hpl
        by_cases hroom : xs.length + ys.length ≤ cap
        · have hle : (xs.length + ys.length) * e.size ≤ cap * e.size := Nat.mul_le_mul_right _ hroom
          rw [Nat.add_mul] at hle
          have hr := run_append_room (P := P) w t ty T i ht.und hi1 b xs.length cap cells hb ⟨sb, soff, none⟩ ys.length c1 scs (by rw [hi2]; exact hnl) hnews hone hroom (by rw [hi2, hnl, h3]; exact hle)
          have hlt : b < w.heap.size := (Array.getElem?_eq_some_iff.1 hb).1
          rw [hi2] at hr
          refine ⟨_, _, .row b cap, hr, ⟨rfl, rfl, rfl, by simp [World.setRow], fun k _ hk => setRow_other w b k _ (fun he => hk (by rw [he]; rfl))⟩, fun k h => ?_, .inr hy, by simp [PlSlice], rfl, .inr ⟨b, cap, _, rfl, setRow_heap w b cells _ T _ hb, by simpa using hroom, h2, ?_, ?_⟩⟩
          · cases h; exact ⟨by simpa [World.setRow] using hlt, .inl rfl⟩
          · have hx : xs.length * e.size ≤ cap * e.size := Nat.mul_le_mul_right _ h1
            simp only [List.size_toArray, List.length_append, List.length_take, List.length_drop, Array.length_toList, h3, hnl]
            omega
          · have hx : xs.length * e.size ≤ cap * e.size := Nat.mul_le_mul_right _ h1
            have hl1 : (cells.toList.take (xs.length * e.size)).length = xs.length * e.size := by simp only [List.length_take, Array.length_toList, h3]; omega
            have hlen : (xs ++ ys).length * e.size = (cells.toList.take (xs.length * e.size) ++ scs).length := by rw [List.length_append, List.length_append, hl1, hnl, Nat.add_mul]
            rw [hlen, List.take_left]
            exact RepL.append _ _ _ _ h4 hsl
        · have hx : xs.length * e.size ≤ cap * e.size := Nat.mul_le_mul_right _ h1
          have hca := (cellsAt_block hb).sub 0 (xs.length * e.size)
          simp only [List.drop_zero, Nat.add_zero] at hca
          obtain ⟨v', w', pl', g1, g2, g3, g4, g5, g6⟩ := grow ⟨b, 0, none⟩ xs.length cap _ rfl (by omega) (by simp only [List.length_take, Array.length_toList, h3]; omega) (fun j v hj => by rw [addr_add]; exact hca j v hj) h4 (some b)
          exact ⟨v', w', pl', g1, g2, g3, .inr hy, g4, g5, .inr g6⟩

theorem ok_append_os {t T : TypeId} {x y : Operand} {o n : Nat} {e : Ty} {xs ys : List e.den} {av : AV} (ht : ElT P t T e) (hx : s.ev C x = .os o n) (ho : s.hp o = some (.arr T e n false xs)) (hy : s.ev C y = av) (hs : Src s.hp av e ys)
    (hlim : xs.length + ys.length ≤ lim) :
    OpOK P C ⟨dst, .call ⟨.builtin .append, #[x, y], #[t, t]⟩, ty, pos, aft, gd⟩ ⟨dst, .os o (n + 1), av.objs, [(o, .arr T e (n + 1) false (xs ++ ys))]⟩ s := by
  intro s1 hop hhp im μ a w hi hd
  have hx1 : s1.ev C x = .os o n := (hop x (by simp [Op.operands, Call.operands])).trans hx
  have hy1 : s1.ev C y = av := (hop y (by simp [Op.operands, Call.operands])).trans hy
  have ho1 : s1.hp o = some (.arr T e n false xs) := (hhp o (.inr (by simp))).trans ho
  have hs1 : Src s1.hp av e ys := hs.hp (fun k hk => hhp k (.inl hk))
  have hsrc := hs1.sound (hy1 ▸ hi.ev y) hi.obj
  obtain ⟨hr, hag⟩ := hx1 ▸ hi.ev x
  simp only [RepA] at hr
  obtain ⟨T', e', m', z', xs', ho', hle, u, hc, h1, hpl⟩ := hr
  rw [ho1] at ho'
  cases ho'
  have hpl2 := hpl rfl
  clear hpl
  have hv : a.eval x = u := by
    have : (a.eval x).cells.toList = [u] := hc
    generalize a.eval x = v at this hag
    cases v <;> simp_all [Value.cells, vIsAgg, AV.isAgg]
  obtain ⟨v', w', pl', g1, g2, g3, g4, g5, g6, g7⟩ := run_append_any ht w im ty hpl2 (by
    rcases hi.obj o _ ho1 with h | ⟨_, h⟩ | ⟨h, _⟩
    · exact .inl h
    · exact .inr h
    · cases h) hsrc hlim (fun b hb => (hi.sep o b hb).1) hi.imLt
  have hev : ∀ ob, s1.hp o = some ob → ObEv ob (μ o) (.arr T e (n + 1) false (xs ++ ys)) pl' := by
    intro ob hob
    rw [ho1] at hob
    obtain rfl := Option.some.inj hob
    exact ⟨_, _, _, rfl, .inr (Nat.lt_succ_self _)⟩
  have ev := hi.evObj hev g2
  refine ⟨v', w', im, _, .inl ?_, hi.obj1 hev g2 g3 ?_ hd ?_⟩
  · simp only [execOp, resolve, invoke, builtin, Sem.run_bind, Sem.run_pure, Result.andThen_ok, List.map_toArray, List.map_cons, List.map_nil, hv, g1]
  · rcases g7 with ⟨b, h2, h3⟩ | ⟨b, cap, cells, h2, h3, h4, h5, h6, h7⟩
    · exact .inl ⟨b, h2, h3⟩
    · exact .inr (.inl ⟨rfl, b, cap, cells, h2, h3, h4, h5, h6, RepL.mono (RepD.mono ev.fim ev.fheap e) _ _ h7⟩)
  · refine RepV.ofA ?_ (by cases v' <;> simp_all [Value.oneCell', vIsAgg, AV.isAgg])
    simp only [RepA]
    exact ⟨T, e, _, _, _, hpSet_one _ _ _, Nat.le_refl _, v', by rw [(one_cells g6).1], g6, fun _ => by rw [updMu_same]; exact g5⟩

theorem ok_append_new {d : Option Tmp} {o : Nat} {t T : TypeId} {x y : Operand} {e : Ty} {ys : List e.den} {av : AV} (ht : ElT P t T e) (h0 : s.hp o = none) (hx : s.ev C x = .nils ∨ s.ev C x = .emp) (hy : s.ev C y = av) (hs : Src s.hp av e ys)
    (hlim : ys.length ≤ lim) :
    OpOK P C ⟨d, .call ⟨.builtin .append, #[x, y], #[t, t]⟩, ty, pos, aft, gd⟩ ⟨d, .os o 0, av.objs, [(o, .arr T e 0 false ys)]⟩ s := by
  intro s1 hop hhp im μ a w hi hd
  have hx1 : s1.ev C x = s.ev C x := hop x (by simp [Op.operands, Call.operands])
  have hy1 : s1.ev C y = av := (hop y (by simp [Op.operands, Call.operands])).trans hy
  have h01 : s1.hp o = none := (hhp o (.inr (by simp))).trans h0
  have hs1 : Src s1.hp av e ys := hs.hp (fun k hk => hhp k (.inl hk))
  have hsrc := hs1.sound (hy1 ▸ hi.ev y) hi.obj
  obtain ⟨ad, hv⟩ : ∃ ad, a.eval x = .slice ad 0 0 := by
    have hrx := hi.ev x
    rw [hx1] at hrx
    rcases hx with hx | hx <;> rw [hx] at hrx <;> obtain ⟨hr, hag⟩ := hrx <;> simp only [RepA] at hr
    · exact ⟨none, slice_of_cells hr hag⟩
    · obtain ⟨ad, hr⟩ := hr; exact ⟨ad, slice_of_cells hr hag⟩
  obtain ⟨v', w', pl', g1, g2, g3, g4, g5, g6, g7⟩ := run_append_any (xs := []) ht w im ty (pl := .nil ad) (v0 := .slice ad 0 0) rfl (.inl ⟨ad, rfl, rfl⟩) hsrc (by simpa using hlim) (fun b hb => by cases hb) hi.imLt
  simp only [List.nil_append] at g5 g7
  have hev : ∀ ob, s1.hp o = some ob → ObEv ob (μ o) (.arr T e 0 false ys) pl' := fun ob hob => by rw [h01] at hob; cases hob
  have hw : WStep w w' (μ o).blk := by
    rw [hi.dom o h01]; exact g2
  have ev := hi.evObj hev hw
  refine ⟨v', w', im, _, .inl ?_, hi.obj1 hev hw (fun b hb => ⟨(g3 b hb).1, .inr ?_⟩) ?_ hd ?_⟩
  · simp only [execOp, resolve, invoke, builtin, Sem.run_bind, Sem.run_pure, Result.andThen_ok, List.map_toArray, List.map_cons, List.map_nil, hv, g1]
  · rcases (g3 b hb).2 with h | h
    · cases h
    · exact h
  · rcases g7 with ⟨b, h2, h3⟩ | ⟨b, cap, cells, h2, h3, h4, h5, h6, h7⟩
    · exact .inl ⟨b, h2, h3⟩
    · exact .inr (.inl ⟨rfl, b, cap, cells, h2, h3, h4, h5, h6, RepL.mono (RepD.mono ev.fim ev.fheap e) _ _ h7⟩)
  · refine RepV.ofA ?_ (by cases v' <;> simp_all [Value.oneCell', vIsAgg, AV.isAgg])
    simp only [RepA]
    exact ⟨T, e, _, _, _, hpSet_one _ _ _, Nat.le_refl _, v', by rw [(one_cells g6).1], g6, fun _ => by rw [updMu_same]; exact g5⟩

end
end Go.Vm
namespace Go.Vm

mutual
def AV.free : AV → Bool
  | .undef => false
  | .d _ _ => true
  | .ip _ _ => true
  | .op _ _ _ => false
  | .os _ _ => false
  | .oe _ _ _ => false
  | .ow _ _ _ _ => false
  | .nils => true
  | .emp => true
  | .pr a b => a.free && b.free
  | .tup _ => false
  | .fn _ first cap => frees first && frees cap
  | .nilfn => true
  | .iface _ v => v.free
  | .nilif => true
  | .nilp => true
  | .ref _ => false
def frees : List AV → Bool
  | [] => true
  | a :: l => a.free && frees l
end

section
variable {w : World} {im : Nat → Prop} {μ μ' : Mu} {hp hp' : Hp}
mutual
/-- what names no object stands whatever the objects are -/
theorem RepA.free : ∀ (a : AV) (cs : List Value), a.free = true → RepA w im μ hp a cs → RepA w im μ' hp' a cs
  | .undef, _, hf, _ => by simp [AV.free] at hf
  | .d t x, cs, _, hr => by simp only [RepA] at hr ⊢; exact hr
  | .ip t x, cs, _, hr => by simp only [RepA] at hr ⊢; exact hr
  | .op _ _ _, _, hf, _ => by simp [AV.free] at hf
  | .os _ _, _, hf, _ => by simp [AV.free] at hf
  | .oe _ _ _, _, hf, _ => by simp [AV.free] at hf
  | .ow _ _ _ _, _, hf, _ => by simp [AV.free] at hf
  | .nils, cs, _, hr => by simp only [RepA] at hr ⊢; exact hr
  | .emp, cs, _, hr => by simp only [RepA] at hr ⊢; exact hr
  | .pr a b, cs, hf, hr => by
    simp only [AV.free, Bool.and_eq_true] at hf
    simp only [RepA] at hr ⊢
    obtain ⟨c1, c2, e, h1, h2⟩ := hr
    exact ⟨c1, c2, e, RepA.free a c1 hf.1 h1, RepA.free b c2 hf.2 h2⟩
  | .tup _, _, hf, _ => by simp [AV.free] at hf
  | .fn f first cap, cs, hf, hr => by
    simp only [AV.free, Bool.and_eq_true] at hf
    simp only [RepA] at hr ⊢
    obtain ⟨vs, us, e, h1, h2⟩ := hr
    exact ⟨vs, us, e, RepFs.free first vs hf.1 h1, RepFs.free cap us hf.2 h2⟩
  | .nilfn, cs, _, hr => by simp only [RepA] at hr ⊢; exact hr
  | .iface t v, cs, hf, hr => by
    simp only [AV.free] at hf
    simp only [RepA] at hr ⊢
    obtain ⟨u, e, h1, h2⟩ := hr
    exact ⟨u, e, RepA.free v _ hf h1, h2⟩
  | .nilif, cs, _, hr => by simp only [RepA] at hr ⊢; exact hr
  | .nilp, cs, _, hr => by simp only [RepA] at hr ⊢; exact hr
  | .ref _, _, hf, _ => by simp [AV.free] at hf
theorem RepFs.free : ∀ (l : List AV) (vs : List Value), frees l = true → RepFs w im μ hp l vs → RepFs w im μ' hp' l vs
  | [], vs, _, hr => by simp only [RepFs] at hr ⊢; exact hr
  | a :: l, vs, hf, hr => by
    simp only [frees, Bool.and_eq_true] at hf
    simp only [RepFs] at hr ⊢
    obtain ⟨v, us, e, h1, h2, h3⟩ := hr
    exact ⟨v, us, e, RepA.free a _ hf.1 h1, h2, RepFs.free l us hf.2 h3⟩
end
end

theorem free_plain {a : AV} (h : a.free = true) : a.plain = true := by cases a <;> simp_all [AV.free, AV.plain]

/-- the package variables that a state speaks of name no object -/
def GlobFree (C : Ctx) : Prop := ∀ g v, C.Γ g = some v → v.free = true

/-! ### objects under other names -/

/-- what becomes of an array's version -/
inductive VMap where
  | keep
  | reset (m : Nat)
  | shift (k : Nat)
def VMap.app : VMap → Nat → Option Nat
  | .keep, n => some n
  | .reset m, n => bif Nat.beq n m then some 0 else none
  | .shift k, n => some (k + n)

theorem VMap.mono {φ : VMap} {n m n' m' : Nat} (hn : φ.app n = some n') (hm : φ.app m = some m') (h : n ≤ m) : n' ≤ m' ∧ (n' = m' → n = m) := by
  cases φ with
  | keep => cases hn; cases hm; exact ⟨h, id⟩
  | reset k =>
    simp only [VMap.app] at hn hm
    cases h1 : Nat.beq n k with
    | false => rw [h1] at hn; cases hn
    | true =>
      cases h2 : Nat.beq m k with
      | false => rw [h2] at hm; cases hm
      | true =>
        rw [h1] at hn; rw [h2] at hm
        cases hn; cases hm
        exact ⟨Nat.le_refl _, fun _ => (Nat.eq_of_beq_eq_true h1).trans (Nat.eq_of_beq_eq_true h2).symm⟩
  | shift k => cases hn; cases hm; exact ⟨by omega, fun h => by omega⟩

/-- from an old name to a new one -/
abbrev Sg := List (Nat × Nat × VMap)
def Sg.get : Sg → Nat → Option (Nat × VMap)
  | [], _ => none
  | (a, b) :: r, o => bif Nat.beq o a then some b else Sg.get r o
def Sg.inv : Sg → Nat → Option Nat
  | [], _ => none
  | (a, b, _) :: r, o => bif Nat.beq o b then some a else Sg.inv r o
/-- no name twice, on either side -/
def Sg.good : Sg → Bool
  | [] => true
  | (a, b, _) :: r => (match Sg.get r a with | none => true | some _ => false) && (match Sg.inv r b with | none => true | some _ => false) && Sg.good r

theorem beq_ne {a b : Nat} (h : Nat.beq a b = false) : a ≠ b := fun e => by subst e; rw [Nat.beq_refl] at h; cases h

theorem Sg.inv_of_get : ∀ {σ : Sg}, σ.good = true → ∀ {o o' : Nat} {φ : VMap}, σ.get o = some (o', φ) → σ.inv o' = some o
  | [], _, _, _, _, h => by cases h
  | (a, b, ψ) :: r, hg, o, o', φ, h => by
    simp only [Sg.good, Bool.and_eq_true] at hg
    obtain ⟨⟨h1, h2⟩, h3⟩ := hg
    simp only [Sg.get] at h
    simp only [Sg.inv]
    cases hb : Nat.beq o a with
    | true =>
      rw [hb] at h
      cases h
      rw [Nat.beq_refl]
      exact congrArg some (Nat.eq_of_beq_eq_true hb).symm
    | false =>
      rw [hb] at h
      have ih := Sg.inv_of_get h3 h
      cases hb2 : Nat.beq o' b with
      | false => exact ih
      | true =>
        have := Nat.eq_of_beq_eq_true hb2
        subst this
        rw [ih] at h2; cases h2

theorem Sg.get_of_inv : ∀ {σ : Sg}, σ.good = true → ∀ {o o' : Nat}, σ.inv o' = some o → ∃ φ, σ.get o = some (o', φ)
  | [], _, _, _, h => by cases h
  | (a, b, ψ) :: r, hg, o, o', h => by
    simp only [Sg.good, Bool.and_eq_true] at hg
    obtain ⟨⟨h1, h2⟩, h3⟩ := hg
    simp only [Sg.inv] at h
    simp only [Sg.get]
    cases hb : Nat.beq o' b with
    | true =>
      rw [hb] at h
      cases h
      rw [Nat.beq_refl]
      exact ⟨ψ, by rw [Nat.eq_of_beq_eq_true hb]; rfl⟩
    | false =>
      rw [hb] at h
      obtain ⟨φ, ih⟩ := Sg.get_of_inv h3 h
      cases hb2 : Nat.beq o a with
      | false => exact ⟨φ, ih⟩
      | true =>
        have := Nat.eq_of_beq_eq_true hb2
        subst this
        rw [ih] at h1; cases h1

mutual
def AV.ren (σ : Sg) : AV → Option AV
  | .undef => none
  | .d t x => some (.d t x)
  | .ip t x => some (.ip t x)
  | .op o p off => match σ.get o with | some (o', _) => some (.op o' p off) | none => none
  | .os o n => match σ.get o with | some (o', φ) => (match φ.app n with | some n' => some (.os o' n') | none => none) | none => none
  | .oe o n i => match σ.get o with | some (o', φ) => (match φ.app n with | some n' => some (.oe o' n' i) | none => none) | none => none
  | .ow o n i l => match σ.get o with | some (o', φ) => (match φ.app n with | some n' => some (.ow o' n' i l) | none => none) | none => none
  | .nils => some .nils
  | .emp => some .emp
  | .pr a b => match a.ren σ with | some a' => (match b.ren σ with | some b' => some (.pr a' b') | none => none) | none => none
  | .tup _ => none
  | .fn f first cap => match rens σ first with | some l => (match rens σ cap with | some l' => some (.fn f l l') | none => none) | none => none
  | .nilfn => some .nilfn
  | .iface t v => match v.ren σ with | some v' => some (.iface t v') | none => none
  | .nilif => some .nilif
  | .nilp => some .nilp
  | .ref o => match σ.get o with | some (o', _) => some (.ref o') | none => none
def rens (σ : Sg) : List AV → Option (List AV)
  | [] => some []
  | a :: l => match a.ren σ with | some a' => (match rens σ l with | some l' => some (a' :: l') | none => none) | none => none
end

def renE (σ : Sg) : List (List UInt8 × AV) → Option (List (List UInt8 × AV))
  | [] => some []
  | (k, a) :: l => match a.ren σ with | some a' => (match renE σ l with | some l' => some ((k, a') :: l') | none => none) | none => none
/-- what cannot be renamed is left out -/
def renF (σ : Sg) : List (Nat × AV) → List (Nat × AV)
  | [] => []
  | (k, a) :: l => match a.ren σ with | some a' => (k, a') :: renF σ l | none => renF σ l
def ARec.ren (σ : Sg) : ARec → Option ARec
  | .map l => match renE σ l with | some l' => some (.map l') | none => none
  | .loop lc fr st => some (.loop lc (renF σ fr) st)
theorem ARec.ren_isMap {σ : Sg} {r r' : ARec} (h : r.ren σ = some r') : r'.isMap = r.isMap := by
  cases r with
  | map l => simp only [ARec.ren] at h; split at h <;> first | (cases h; rfl) | cases h
  | loop lc fr st => simp only [ARec.ren] at h; cases h; rfl

def AObj.ren (σ : Sg) (φ : VMap) : AObj → Option AObj
  | .rc r => match r.ren σ with | some r' => some (.rc r') | none => none
  | .box v => match v.ren σ with | some v' => some (.box v') | none => none
  | .arr T e m z xs => match φ.app m with | some m' => some (.arr T e m' z xs) | none => none

def ObR (φ : VMap) : AObj → AObj → Prop
  | .box _, .box _ => True
  | .rc r, .rc r' => r'.isMap = r.isMap
  | .arr T e m z xs, ob' => ∃ m', φ.app m = some m' ∧ ob' = .arr T e m' z xs
  | _, _ => False

theorem AObj.ren_obR {σ : Sg} {φ : VMap} {ob ob' : AObj} (h : ob.ren σ φ = some ob') : ObR φ ob ob' := by
  cases ob with
  | box v =>
    simp only [AObj.ren] at h
    cases hv : v.ren σ with
    | none => rw [hv] at h; cases h
    | some v' => rw [hv] at h; cases h; trivial
  | rc r =>
    simp only [AObj.ren] at h
    cases hv : r.ren σ with
    | none => rw [hv] at h; cases h
    | some v' => rw [hv] at h; cases h; exact ARec.ren_isMap hv
  | arr T e m z xs =>
    simp only [AObj.ren] at h
    cases hm : φ.app m with
    | none => rw [hm] at h; cases h
    | some m' => rw [hm] at h; cases h; exact ⟨m', hm, rfl⟩

theorem AV.ren_agg {σ : Sg} (a a' : AV) (h : a.ren σ = some a') : a.isAgg = a'.isAgg := by
  cases a <;> simp only [AV.ren] at h
  case undef => cases h
  case tup => cases h
  case d => cases h; rfl
  case ip => cases h; rfl
  case nils => cases h; rfl
  case emp => cases h; rfl
  case nilfn => cases h; rfl
  case nilif => cases h; rfl
  case nilp => cases h; rfl
  all_goals (repeat' split at h) <;> first | (cases h; rfl) | cases h

structure SgOK (σ : Sg) (μ μ' : Mu) (hp hp' : Hp) : Prop where
  ob : ∀ o o' φ, σ.get o = some (o', φ) → μ' o' = μ o ∧ ∀ ob, hp o = some ob → ∃ ob', hp' o' = some ob' ∧ ObR φ ob ob'

section
variable {w : World} {im : Nat → Prop} {μ μ' : Mu} {hp hp' : Hp} {σ : Sg}

mutual
theorem RepA.ren (h : SgOK σ μ μ' hp hp') : ∀ (a a' : AV) (cs : List Value), a.ren σ = some a' → RepA w im μ hp a cs → RepA w im μ' hp' a' cs
  | .undef, _, _, e, _ => by simp only [AV.ren] at e; cases e
  | .d t x, _, cs, e, hr => by simp only [AV.ren] at e; cases e; simp only [RepA] at hr ⊢; exact hr
  | .ip t x, _, cs, e, hr => by simp only [AV.ren] at e; cases e; simp only [RepA] at hr ⊢; exact hr
  | .op o p off, a', cs, e, hr => by
    simp only [AV.ren] at e
    cases hg : σ.get o with
    | none => rw [hg] at e; cases e
    | some of =>
      obtain ⟨o', φ⟩ := of
      rw [hg] at e
      cases e
      simp only [RepA] at hr ⊢
      obtain ⟨b, v, h1, h2, h3⟩ := hr
      obtain ⟨g1, g2⟩ := h.ob o o' φ hg
      obtain ⟨ob', g3, g4⟩ := g2 _ h2
      cases ob' with
      | box v' => exact ⟨b, v', g1.trans h1, g3, h3⟩
      | arr _ _ _ _ _ => exact g4.elim
      | rc _ => exact g4.elim
  | .os o n, a', cs, e, hr => by
    simp only [AV.ren] at e
    cases hg : σ.get o with
    | none => rw [hg] at e; cases e
    | some of =>
      obtain ⟨o', φ⟩ := of
      rw [hg] at e
      simp only at e
      cases hn : φ.app n with
      | none => rw [hn] at e; cases e
      | some n' =>
        rw [hn] at e
        cases e
        simp only [RepA] at hr ⊢
        obtain ⟨T, el, m, z, xs, h1, h2, v, h3, h4, h5⟩ := hr
        obtain ⟨g1, g2⟩ := h.ob o o' φ hg
        obtain ⟨ob', g3, m', g4, rfl⟩ := g2 _ h1
        obtain ⟨k1, k2⟩ := VMap.mono hn g4 h2
        exact ⟨T, el, m', z, xs, g3, k1, v, h3, h4, fun hh => by rw [g1]; exact h5 (k2 hh)⟩
  | .oe o n i, a', cs, e, hr => by
    simp only [AV.ren] at e
    cases hg : σ.get o with
    | none => rw [hg] at e; cases e
    | some of =>
      obtain ⟨o', φ⟩ := of
      rw [hg] at e
      simp only at e
      cases hn : φ.app n with
      | none => rw [hn] at e; cases e
      | some n' =>
        rw [hn] at e
        cases e
        simp only [RepA] at hr ⊢
        obtain ⟨T, el, m, z, xs, h1, h2, v, h3, h4, h5⟩ := hr
        obtain ⟨g1, g2⟩ := h.ob o o' φ hg
        obtain ⟨ob', g3, m', g4, rfl⟩ := g2 _ h1
        obtain ⟨k1, k2⟩ := VMap.mono hn g4 h2
        exact ⟨T, el, m', z, xs, g3, k1, v, h3, h4, fun hh => by rw [g1]; exact h5 (k2 hh)⟩
  | .ow o n i l, a', cs, e, hr => by
    simp only [AV.ren] at e
    cases hg : σ.get o with
    | none => rw [hg] at e; cases e
    | some of =>
      obtain ⟨o', φ⟩ := of
      rw [hg] at e
      simp only at e
      cases hn : φ.app n with
      | none => rw [hn] at e; cases e
      | some n' =>
        rw [hn] at e
        cases e
        simp only [RepA] at hr ⊢
        obtain ⟨T, el, m, z, xs, h1, h2, v, h3, h4, h5⟩ := hr
        obtain ⟨g1, g2⟩ := h.ob o o' φ hg
        obtain ⟨ob', g3, m', g4, rfl⟩ := g2 _ h1
        obtain ⟨k1, k2⟩ := VMap.mono hn g4 h2
        exact ⟨T, el, m', z, xs, g3, k1, v, h3, h4, fun hh => by rw [g1]; exact h5 (k2 hh)⟩
  | .nils, _, cs, e, hr => by simp only [AV.ren] at e; cases e; simp only [RepA] at hr ⊢; exact hr
  | .emp, _, cs, e, hr => by simp only [AV.ren] at e; cases e; simp only [RepA] at hr ⊢; exact hr
  | .pr a b, a', cs, e, hr => by
    simp only [AV.ren] at e
    cases h1 : a.ren σ with
    | none => rw [h1] at e; cases e
    | some a1 =>
      rw [h1] at e
      simp only at e
      cases h2 : b.ren σ with
      | none => rw [h2] at e; cases e
      | some b1 =>
        rw [h2] at e
        cases e
        simp only [RepA] at hr ⊢
        obtain ⟨c1, c2, ec, g1, g2⟩ := hr
        exact ⟨c1, c2, ec, RepA.ren h a a1 c1 h1 g1, RepA.ren h b b1 c2 h2 g2⟩
  | .tup _, _, _, e, _ => by simp only [AV.ren] at e; cases e
  | .fn f first cap, a', cs, e, hr => by
    simp only [AV.ren] at e
    cases h1 : rens σ first with
    | none => rw [h1] at e; cases e
    | some a1 =>
      rw [h1] at e
      simp only at e
      cases h2 : rens σ cap with
      | none => rw [h2] at e; cases e
      | some b1 =>
        rw [h2] at e
        cases e
        simp only [RepA] at hr ⊢
        obtain ⟨vs, us, ec, g1, g2⟩ := hr
        exact ⟨vs, us, ec, RepFs.ren h first a1 vs h1 g1, RepFs.ren h cap b1 us h2 g2⟩
  | .nilfn, _, cs, e, hr => by simp only [AV.ren] at e; cases e; simp only [RepA] at hr ⊢; exact hr
  | .iface t v, a', cs, e, hr => by
    simp only [AV.ren] at e
    cases h1 : v.ren σ with
    | none => rw [h1] at e; cases e
    | some v1 =>
      rw [h1] at e
      cases e
      simp only [RepA] at hr ⊢
      obtain ⟨u, ec, g1, g2⟩ := hr
      exact ⟨u, ec, RepA.ren h v v1 _ h1 g1, g2.trans (AV.ren_agg v v1 h1)⟩
  | .nilif, _, cs, e, hr => by simp only [AV.ren] at e; cases e; simp only [RepA] at hr ⊢; exact hr
  | .nilp, _, cs, e, hr => by simp only [AV.ren] at e; cases e; simp only [RepA] at hr ⊢; exact hr
  | .ref o, a', cs, e, hr => by
    simp only [AV.ren] at e
    cases hg : σ.get o with
    | none => rw [hg] at e; cases e
    | some of =>
      obtain ⟨o', φ⟩ := of
      rw [hg] at e
      cases e
      simp only [RepA] at hr ⊢
      obtain ⟨b, r, h1, h2, h3⟩ := hr
      obtain ⟨g1, g2⟩ := h.ob o o' φ hg
      obtain ⟨ob', g3, g4⟩ := g2 _ h2
      cases ob' with
      | rc r' =>
        have g5 : r'.isMap = r.isMap := g4
        exact ⟨b, r', g1.trans h1, g3, by rw [h3]; simp only [ARec.val, g5]⟩
      | arr _ _ _ _ _ => exact g4.elim
      | box _ => exact g4.elim
theorem RepFs.ren (h : SgOK σ μ μ' hp hp') : ∀ (l l' : List AV) (vs : List Value), rens σ l = some l' → RepFs w im μ hp l vs → RepFs w im μ' hp' l' vs
  | [], _, vs, e, hr => by simp only [rens] at e; cases e; simp only [RepFs] at hr ⊢; exact hr
  | a :: l, l', vs, e, hr => by
    simp only [rens] at e
    cases h1 : a.ren σ with
    | none => rw [h1] at e; cases e
    | some a1 =>
      rw [h1] at e
      simp only at e
      cases h2 : rens σ l with
      | none => rw [h2] at e; cases e
      | some l1 =>
        rw [h2] at e
        cases e
        simp only [RepFs] at hr ⊢
        obtain ⟨v, us, ec, g1, g2, g3⟩ := hr
        exact ⟨v, us, ec, RepA.ren h a a1 _ h1 g1, g2.trans (AV.ren_agg a a1 h1), RepFs.ren h l l1 us h2 g3⟩
end

theorem RepEs.ren (h : SgOK σ μ μ' hp hp') : ∀ (l l' : List (List UInt8 × AV)) (es : List MapEntry), renE σ l = some l' → RepEs w im μ hp l es → RepEs w im μ' hp' l' es
  | [], _, es, e, hr => by simp only [renE] at e; cases e; exact hr
  | (k, a) :: l, l', es, e, hr => by
    simp only [renE] at e
    cases h1 : a.ren σ with
    | none => rw [h1] at e; cases e
    | some a1 =>
      rw [h1] at e
      simp only at e
      cases h2 : renE σ l with
      | none => rw [h2] at e; cases e
      | some l1 =>
        rw [h2] at e
        cases e
        obtain ⟨x, es', g1, g2, g3, g4, g5⟩ := hr
        exact ⟨x, es', g1, g2, RepA.ren h a a1 _ h1 g3, g4.trans (AV.ren_agg a a1 h1), RepEs.ren h l l1 es' h2 g5⟩

theorem RepV.ren (h : SgOK σ μ μ' hp hp') {a a' : AV} {v : Value} (e : a.ren σ = some a') (hr : RepV w im μ hp a v) : RepV w im μ' hp' a' v := by
  have key : ∀ {b : AV}, RepA w im μ hp b v.cells.toList → vIsAgg v = b.isAgg → b.ren σ = some a' → RepV w im μ' hp' a' v := fun {b} h1 h2 e => by
    have h3 := RepA.ren h b a' _ e h1
    have h4 := h2.trans (AV.ren_agg b a' e)
    cases a' <;> first
      | exact ⟨h3, h4⟩
      | trivial
      | (simp only [RepA] at h3)
  cases a <;> first
    | (simp only [AV.ren] at e; cases e; done)
    | exact key hr.1 hr.2 e

theorem renF_rep (h : SgOK σ μ μ' hp hp') {tmps : Array Value} : ∀ {l : List (Nat × AV)}, (∀ p ∈ l, RepV w im μ hp p.2 (tmps.getD p.1 Go.undef)) → ∀ p ∈ renF σ l, RepV w im μ' hp' p.2 (tmps.getD p.1 Go.undef)
  | [], _ => fun p hp => by cases hp
  | (k, a) :: l, hr => by
    intro p hp
    simp only [renF] at hp
    cases h1 : a.ren σ with
    | none =>
      rw [h1] at hp
      exact renF_rep h (fun q hq => hr q (by simp [hq])) p hp
    | some a1 =>
      rw [h1] at hp
      rcases List.mem_cons.1 hp with rfl | hp
      · exact RepV.ren h h1 (hr (k, a) (by simp))
      · exact renF_rep h (fun q hq => hr q (by simp [hq])) p hp

theorem RepR.ren (h : SgOK σ μ μ' hp hp') {r r' : ARec} {x : Obj} (e : r.ren σ = some r') (hr : RepR w im μ hp r x) : RepR w im μ' hp' r' x := by
  cases r with
  | map l =>
    simp only [ARec.ren] at e
    split at e
    · rename_i l' hl
      cases e
      obtain ⟨es, clock, h1, h2⟩ := hr
      exact ⟨es, clock, h1, RepEs.ren h _ _ _ hl h2⟩
    · cases e
  | loop lc fr st =>
    simp only [ARec.ren] at e
    cases e
    obtain ⟨r, h1, h2, h3, h4, h5, h6, h7⟩ := hr
    exact ⟨r, h1, h2, h3, h4, h5, renF_rep h h6, h7⟩
end

end Go.Vm
namespace Go.Vm

inductive AEnd where
  | ret (l : List AV)
  | panic (t : TypeId) (n : Int)

/-- what a call's ending is -/
def EndRep (w : World) (im : Nat → Prop) (μ : Mu) (hp : Hp) : AEnd → Ending → Prop
  | .ret [a], e => ∃ v, e = .returned v ∧ RepA w im μ hp a v.cells.toList ∧ vIsAgg v = a.isAgg
  | .ret l, e => ∃ vs : List Value, e = .returned (.tuple vs.toArray) ∧ RepFs w im μ hp l vs
  | .panic t n, e => e = .panicked [{ v := .iface t (.int .i64 n), recovered := false }]

structure HpInv (w : World) (im : Nat → Prop) (μ : Mu) (hp : Hp) : Prop where
  sep : ∀ o b, (μ o).blk = some b → ¬ im b ∧ b < w.heap.size
  inj : ∀ o o' b, (μ o).blk = some b → (μ o').blk = some b → o = o'
  dom : ∀ o, hp o = none → μ o = .none
  obj : ∀ o ob, hp o = some ob → RepO w im μ hp (μ o) ob

structure HpStep (W : World) (im : Nat → Prop) (μ : Mu) (h0 : Hp) (w' : World) (im' : Nat → Prop) (μ' : Mu) (h1 : Hp) : Prop where
  os : w'.os = W.os
  tape : w'.tape = W.tape
  output : w'.output = W.output
  grow : W.heap.size ≤ w'.heap.size
  old : ∀ b, b < W.heap.size → (∀ o, (μ o).blk ≠ some b) → w'.heap[b]? = W.heap[b]?
  imSub : ∀ b, im b → im' b
  imNew : ∀ b, im' b → im b ∨ (∃ o, (μ o).blk = some b) ∨ W.heap.size ≤ b
  imLt : ∀ b, im' b → b < w'.heap.size
  own : ∀ o b, (μ' o).blk = some b → (∃ o0, (μ o0).blk = some b) ∨ W.heap.size ≤ b
  fob : ∀ o ob, h0 o = some ob → ∃ ob', h1 o = some ob' ∧ ObEv ob (μ o) ob' (μ' o)
  inv : HpInv w' im' μ' h1

def GlobOK (Γ : Nat → Option AV) (W : World) (im : Nat → Prop) : Prop := ∀ g v, Γ g = some v → RepV W im (fun _ => .none) (fun _ => none) v (.pointer (some ⟨g, 0, none⟩))

/-- function f, handed args and the objects h0, ends as R says -/
def FnH (P : Program) (Γ : Nat → Option AV) (f : FuncId) (args : List AV) (h0 : Hp) (R : AEnd → Hp → Prop) : Prop :=
  (∀ (vs : Array Value) (w : World), (callFunc f vs).run P w = .ok (.enter f vs) w) ∧
  ∀ (W : World) (im : Nat → Prop) (μ : Mu) (vals : List Value), (∀ b, im b → b < W.heap.size) → GlobOK Γ W im → HpInv W im μ h0 → RepFs W im μ h0 args vals →
    Calls P f vals.toArray W fun e w' => ∃ ae h1 im' μ', R ae h1 ∧ HpStep W im μ h0 w' im' μ' h1 ∧ EndRep w' im' μ' h1 ae e

def retAV : List AV → AV
  | [a] => a
  | l => .tup l

theorem endRep_ret {w : World} {im : Nat → Prop} {μ : Mu} {hp : Hp} {l : List AV} {e : Ending} (h : EndRep w im μ hp (.ret l) e) : ∃ v, e = .returned v ∧ ∃ vs, RepFs w im μ hp l vs ∧ v = (if h : vs.toArray.size = 1 then vs.toArray[0] else .tuple vs.toArray) := by
  match l, h with
  | [a], h =>
    obtain ⟨v, he, h1, h2⟩ := h
    exact ⟨v, he, [v], by simp only [RepFs]; exact ⟨v, [], rfl, h1, h2, rfl⟩, rfl⟩
  | [], h =>
    obtain ⟨vs, he, h1⟩ := h
    have h2 := h1
    simp only [RepFs] at h2
    subst h2
    exact ⟨_, he, [], h1, rfl⟩
  | a :: b :: l, h =>
    obtain ⟨vs, he, h1⟩ := h
    have h2 := h1
    simp only [RepFs] at h2
    obtain ⟨v, us, rfl, _, _, v', us', rfl, _⟩ := h2
    exact ⟨_, he, _, h1, by simp⟩

theorem retAV_rep {w : World} {im : Nat → Prop} {μ : Mu} {hp : Hp} {l : List AV} {vs : List Value} (h : RepFs w im μ hp l vs) : RepV w im μ hp (retAV l) (if h : vs.toArray.size = 1 then vs.toArray[0] else .tuple vs.toArray) := by
  match l, h with
  | [a], h =>
    simp only [RepFs] at h
    obtain ⟨v, us, rfl, h1, h2, rfl⟩ := h
    exact RepV.ofA h1 h2
  | [], h =>
    have h2 := h
    simp only [RepFs] at h2
    subst h2
    exact ⟨[], rfl, h⟩
  | a :: b :: l, h =>
    have h2 := h
    simp only [RepFs] at h2
    obtain ⟨v, us, rfl, _, _, v', us', rfl, _⟩ := h2
    exact ⟨_, by simp, h⟩

section
variable {P : Program} {C : Ctx}

/-- how the callee sees the caller's objects -/
structure Handed (σ : Sg) (hp h0 : Hp) : Prop where
  good : σ.good = true
  fwd : ∀ o o' φ, σ.get o = some (o', φ) → ∃ ob ob', hp o = some ob ∧ ob.ren σ φ = some ob' ∧ h0 o' = some ob'
  dom : ∀ o', σ.inv o' = none → h0 o' = none

/-- and how the caller sees them behind the call; wr: what is turned, or new -/
structure Back (σ σ' : Sg) (hp H1 : Hp) (wr : List (Nat × AObj)) : Prop where
  good : σ'.good = true
  bwd : ∀ o' o φ, σ'.get o' = some (o, φ) → ∃ ob ob', H1 o' = some ob ∧ ob.ren σ' φ = some ob' ∧ hpSet hp wr o = some ob'
  passed : ∀ o o' φ, σ.get o = some (o', φ) → ∃ φ', σ'.get o' = some (o, φ') ∧ ∀ m v, φ.app m = some v → φ'.app v = some m
  fresh : ∀ o' o φ, σ'.get o' = some (o, φ) → σ.inv o' = some o ∨ (σ.inv o' = none ∧ hp o = none)
  keys : ∀ o, o ∈ wr.map (·.1) → ∃ o' φ, σ'.get o' = some (o, φ)

theorem VMap.smono {φ : VMap} {a b a' b' : Nat} (ha : φ.app a = some a') (hb : φ.app b = some b') (h : a < b) : a' < b' := by
  have h1 := VMap.mono ha hb (Nat.le_of_lt h)
  rcases Nat.lt_or_ge a' b' with h2 | h2
  · exact h2
  · have := h1.2 (Nat.le_antisymm h1.1 h2); omega

open Classical in
noncomputable def muIn (σ : Sg) (μ : Mu) : Mu := fun o' => match σ.inv o' with | some o => μ o | none => .none
open Classical in
noncomputable def muOut (σ' : Sg) (μ' μ : Mu) : Mu := fun o => match σ'.inv o with | some o' => μ' o' | none => μ o

theorem RepO.ren {w : World} {im : Nat → Prop} {μ μ' : Mu} {hp hp' : Hp} {σ : Sg} {φ : VMap} {pl : Pl} {ob ob' : AObj} (h : SgOK σ μ μ' hp hp') (e : ob.ren σ φ = some ob') (hr : RepO w im μ hp pl ob) : RepO w im μ' hp' pl ob' := by
  cases ob with
  | box v =>
    simp only [AObj.ren] at e
    cases hv : v.ren σ with
    | none => rw [hv] at e; cases e
    | some v' =>
      rw [hv] at e; cases e
      obtain ⟨b, cells, T, h1, h2, h3⟩ := hr
      exact ⟨b, cells, T, h1, h2, RepA.ren h v v' _ hv h3⟩
  | rc r =>
    simp only [AObj.ren] at e
    cases hv : r.ren σ with
    | none => rw [hv] at e; cases e
    | some r' =>
      rw [hv] at e; cases e
      obtain ⟨b, x, h1, h2, h3⟩ := hr
      exact ⟨b, x, h1, h2, RepR.ren h hv h3⟩
  | arr T el m z xs =>
    simp only [AObj.ren] at e
    cases hm : φ.app m with
    | none => rw [hm] at e; cases e
    | some m' => rw [hm] at e; cases e; exact hr

theorem Handed.inv {σ : Sg} {hp h0 : Hp} (H : Handed σ hp h0) {w : World} {im : Nat → Prop} {μ : Mu} (hsep : ∀ o b, (μ o).blk = some b → ¬ im b ∧ b < w.heap.size) (hinj : ∀ o o' b, (μ o).blk = some b → (μ o').blk = some b → o = o')
    (hobj : ∀ o ob, hp o = some ob → RepO w im μ hp (μ o) ob) : HpInv w im (muIn σ μ) h0 ∧ SgOK σ μ (muIn σ μ) hp h0 := by
  have hmu : ∀ o o' φ, σ.get o = some (o', φ) → muIn σ μ o' = μ o := fun o o' φ h => by
    simp only [muIn, Sg.inv_of_get H.good h]
  have hsg : SgOK σ μ (muIn σ μ) hp h0 := ⟨fun o o' φ h => ⟨hmu o o' φ h, fun ob hob => by
    obtain ⟨ob1, ob', h1, h2, h3⟩ := H.fwd o o' φ h
    rw [hob] at h1
    cases h1
    exact ⟨ob', h3, AObj.ren_obR h2⟩⟩⟩
  have hblk : ∀ o' b, (muIn σ μ o').blk = some b → ∃ o, σ.inv o' = some o ∧ (μ o).blk = some b := fun o' b h => by
    unfold muIn at h
    cases hi : σ.inv o' with
    | none => rw [hi] at h; cases h
    | some o => rw [hi] at h; exact ⟨o, rfl, h⟩
  refine ⟨⟨?_, ?_, ?_, ?_⟩, hsg⟩
  · intro o' b h
    obtain ⟨o, _, h2⟩ := hblk o' b h
    exact hsep o b h2
  · intro o1 o2 b h1 h2
    obtain ⟨p1, g1, k1⟩ := hblk o1 b h1
    obtain ⟨p2, g2, k2⟩ := hblk o2 b h2
    obtain rfl := hinj p1 p2 b k1 k2
    obtain ⟨φ1, e1⟩ := Sg.get_of_inv H.good g1
    obtain ⟨φ2, e2⟩ := Sg.get_of_inv H.good g2
    rw [e1] at e2; cases e2; rfl
  · intro o' h
    unfold muIn
    cases hi : σ.inv o' with
    | none => rfl
    | some o =>
      obtain ⟨φ, e⟩ := Sg.get_of_inv H.good hi
      obtain ⟨_, ob', _, _, h3⟩ := H.fwd o o' φ e
      rw [h] at h3; cases h3
  · intro o' ob' h
    cases hi : σ.inv o' with
    | none => rw [H.dom o' hi] at h; cases h
    | some o =>
      obtain ⟨φ, e⟩ := Sg.get_of_inv H.good hi
      obtain ⟨ob, ob1, h1, h2, h3⟩ := H.fwd o o' φ e
      rw [h] at h3
      cases h3
      rw [hmu o o' φ e]
      exact RepO.ren hsg h2 (hobj o ob h1)

/-- behind the call -/
theorem Inv.backE {im im' : Nat → Prop} {μ μ' : Mu} {s1 : ASt} {a : Act} {w w' : World} {σ σ' : Sg} {h0 H1 : Hp} {wr : List (Nat × AObj)} (hi : Inv C im μ s1 a w) (H : Handed σ s1.hp h0) (B : Back σ σ' s1.hp H1 wr)
    (S : HpStep w im (muIn σ μ) h0 w' im' μ' H1) {dst : Option Nat} (hd : ∀ d, dst = some d → d < C.n) {av : AV} {v : Value} (hv : RepV w' im' (muOut σ' μ' μ) (hpSet s1.hp wr) av v) :
    Inv C im' (muOut σ' μ' μ) ⟨(s1.put dst av).fr, hpSet s1.hp wr⟩ (a.put dst v) w' ∧ Ev w im μ s1.hp w' im' (muOut σ' μ' μ) (hpSet s1.hp wr) := by
  have hin : ∀ o o' φ, σ.get o = some (o', φ) → muIn σ μ o' = μ o := fun o o' φ h => by simp only [muIn, Sg.inv_of_get H.good h]
  have hinb : ∀ o' b, (muIn σ μ o').blk = some b → ∃ o φ, σ.get o = some (o', φ) ∧ (μ o).blk = some b := fun o' b h => by
    unfold muIn at h
    cases hq : σ.inv o' with
    | none => rw [hq] at h; cases h
    | some o =>
      rw [hq] at h
      obtain ⟨φ, e⟩ := Sg.get_of_inv H.good hq
      exact ⟨o, φ, e, h⟩
  have hout : ∀ o' o φ, σ'.get o' = some (o, φ) → muOut σ' μ' μ o = μ' o' := fun o' o φ h => by simp only [muOut, Sg.inv_of_get B.good h]
  have houtN : ∀ o, σ'.inv o = none → muOut σ' μ' μ o = μ o := fun o h => by simp only [muOut, h]
  have hkeep : ∀ o, σ'.inv o = none → hpSet s1.hp wr o = s1.hp o := fun o h => hpSet_ne (fun hm => by
    obtain ⟨o', φ, e⟩ := B.keys o hm
    rw [Sg.inv_of_get B.good e] at h; cases h)
  -- a passed object is among those that come back
  have hpas : ∀ o o' φ, σ.get o = some (o', φ) → σ'.inv o = some o' := fun o o' φ h => by
    obtain ⟨φ', e, _⟩ := B.passed o o' φ h
    exact Sg.inv_of_get B.good e
  have hsg' : SgOK σ' μ' (muOut σ' μ' μ) H1 (hpSet s1.hp wr) := ⟨fun o' o φ h => ⟨hout o' o φ h, fun ob hob => by
    obtain ⟨ob1, ob', h1, h2, h3⟩ := B.bwd o' o φ h
    rw [hob] at h1; cases h1
    exact ⟨ob', h3, AObj.ren_obR h2⟩⟩⟩
  have ev : Ev w im μ s1.hp w' im' (muOut σ' μ' μ) (hpSet s1.hp wr) := by
    refine ⟨S.imSub, fun b hb => S.old b (hi.imLt b hb) (fun o' ho' => ?_), fun o ob ho => ?_⟩
    · obtain ⟨o, _, _, h⟩ := hinb o' b ho'
      exact (hi.sep o b h).1 hb
    · cases hq : σ'.inv o with
      | none => exact ⟨ob, by rw [hkeep o hq]; exact ho, by rw [houtN o hq]; exact ObEv.refl _ _⟩
      | some o' =>
        obtain ⟨φ', e'⟩ := Sg.get_of_inv B.good hq
        obtain ⟨ob1, ob2, h1, h2, h3⟩ := B.bwd o' o φ' e'
        rcases B.fresh o' o φ' e' with hf | ⟨_, hf⟩
        · obtain ⟨φ, e⟩ := Sg.get_of_inv H.good hf
          obtain ⟨obc, obc', g1, g2, g3⟩ := H.fwd o o' φ e
          rw [ho] at g1; cases g1
          obtain ⟨ob1', k1, k2⟩ := S.fob o' _ g3
          rw [h1] at k1; cases k1
          rw [hin o o' φ e] at k2
          refine ⟨ob2, h3, ?_⟩
          rw [hout o' o φ' e']
          obtain ⟨φ'', e'', hr⟩ := B.passed o o' φ e
          rw [e'] at e''; cases e''
          cases ob with
          | box v =>
            simp only [AObj.ren] at g2
            cases hv' : v.ren σ with
            | none => rw [hv'] at g2; cases g2
            | some v' =>
              rw [hv'] at g2; cases g2
              cases ob1 with
              | arr _ _ _ _ _ => exact k2.elim
              | rc _ => exact k2.elim
              | box u =>
                simp only [AObj.ren] at h2
                cases hu : u.ren σ' with
                | none => rw [hu] at h2; cases h2
                | some u' => rw [hu] at h2; cases h2; exact k2
          | rc v =>
            simp only [AObj.ren] at g2
            cases hv' : v.ren σ with
            | none => rw [hv'] at g2; cases g2
            | some v' =>
              rw [hv'] at g2; cases g2
              cases ob1 with
              | arr _ _ _ _ _ => exact k2.elim
              | box _ => exact k2.elim
              | rc u =>
                simp only [AObj.ren] at h2
                cases hu : u.ren σ' with
                | none => rw [hu] at h2; cases h2
                | some u' =>
                  rw [hu] at h2; cases h2
                  exact ⟨k2.1, (ARec.ren_isMap hu).trans (k2.2.trans (ARec.ren_isMap hv'))⟩
          | arr T el m z xs =>
            simp only [AObj.ren] at g2
            cases hm : φ.app m with
            | none => rw [hm] at g2; cases g2
            | some v0 =>
              rw [hm] at g2; cases g2
              obtain ⟨m1, z1, ys, rfl, k3⟩ := k2
              simp only [AObj.ren] at h2
              cases hm1 : φ'.app m1 with
              | none => rw [hm1] at h2; cases h2
              | some m2 =>
                rw [hm1] at h2; cases h2
                refine ⟨m2, z1, ys, rfl, ?_⟩
                have hb0 := hr m v0 hm
                rcases k3 with ⟨q1, q2, q3⟩ | q1
                · subst q1
                  rw [hb0] at hm1; cases hm1
                  exact .inl ⟨rfl, q2, q3⟩
                · exact .inr (VMap.smono hb0 hm1 q1)
        · rw [hf] at ho; cases ho
  refine ⟨hi.step ev S.os S.tape S.output S.grow ?_ ?_ S.imLt ?_ ?_ ?_ ?_ dst hd av v hv, ev⟩
  · intro b hb hno
    exact S.old b hb (fun o' ho' => by
      obtain ⟨o, _, _, h⟩ := hinb o' b ho'
      exact hno o h)
  · intro b hb
    rcases S.imNew b hb with h | ⟨o', h⟩ | h
    · exact .inl h
    · obtain ⟨o, _, _, h⟩ := hinb o' b h
      exact .inr (.inl ⟨o, h⟩)
    · exact .inr (.inr h)
  · intro o b hb
    cases hq : σ'.inv o with
    | none =>
      rw [houtN o hq] at hb
      obtain ⟨g1, g2, _⟩ := hi.sep o b hb
      refine ⟨fun hc => ?_, Nat.lt_of_lt_of_le g2 S.grow, .inl ⟨o, hb⟩⟩
      rcases S.imNew b hc with h | ⟨o', h⟩ | h
      · exact g1 h
      · obtain ⟨o1, φ1, e1, h1⟩ := hinb o' b h
        obtain rfl := hi.inj _ _ b h1 hb
        rw [hpas _ _ _ e1] at hq; cases hq
      · omega
    | some o' =>
      obtain ⟨φ', e'⟩ := Sg.get_of_inv B.good hq
      rw [hout o' o φ' e'] at hb
      obtain ⟨g1, g2⟩ := S.inv.sep o' b hb
      refine ⟨g1, g2, ?_⟩
      rcases S.own o' b hb with ⟨o0, h⟩ | h
      · obtain ⟨o1, _, _, h1⟩ := hinb o0 b h
        exact .inl ⟨o1, h1⟩
      · exact .inr h
  · intro o1 o2 b h1 h2
    have mixed : ∀ x y, σ'.inv x = none → (∃ y', σ'.inv y = some y') → (muOut σ' μ' μ x).blk = some b → (muOut σ' μ' μ y).blk = some b → False := by
      intro x y hx ⟨y', hy⟩ hbx hby
      rw [houtN x hx] at hbx
      obtain ⟨φ', e'⟩ := Sg.get_of_inv B.good hy
      rw [hout y' y φ' e'] at hby
      rcases S.own y' b hby with ⟨o0, h⟩ | h
      · obtain ⟨o1', φ1, e1, k1⟩ := hinb o0 b h
        obtain rfl := hi.inj _ _ b k1 hbx
        rw [hpas _ _ _ e1] at hx; cases hx
      · have := (hi.sep x b hbx).2.1; omega
    cases hq1 : σ'.inv o1 with
    | none =>
      cases hq2 : σ'.inv o2 with
      | none =>
        rw [houtN o1 hq1] at h1; rw [houtN o2 hq2] at h2
        exact hi.inj _ _ b h1 h2
      | some y => exact (mixed o1 o2 hq1 ⟨y, hq2⟩ h1 h2).elim
    | some x =>
      cases hq2 : σ'.inv o2 with
      | none => exact (mixed o2 o1 hq2 ⟨x, hq1⟩ h2 h1).elim
      | some y =>
        obtain ⟨φ1, e1⟩ := Sg.get_of_inv B.good hq1
        obtain ⟨φ2, e2⟩ := Sg.get_of_inv B.good hq2
        rw [hout _ _ _ e1] at h1; rw [hout _ _ _ e2] at h2
        obtain rfl := S.inv.inj _ _ b h1 h2
        rw [e1] at e2; cases e2; rfl
  · intro o ho
    cases hq : σ'.inv o with
    | none => rw [hkeep o hq] at ho; rw [houtN o hq]; exact hi.dom o ho
    | some o' =>
      obtain ⟨φ', e'⟩ := Sg.get_of_inv B.good hq
      obtain ⟨_, ob', _, _, h3⟩ := B.bwd o' o φ' e'
      rw [ho] at h3; cases h3
  · intro o ob ho
    cases hq : σ'.inv o with
    | none =>
      rw [hkeep o hq] at ho
      rw [houtN o hq]
      refine (hi.obj o ob ho).ev ev (fun b hb => S.old b (hi.sep o b hb).2.1 (fun o' ho' => ?_))
      obtain ⟨o1, φ1, e1, k1⟩ := hinb o' b ho'
      obtain rfl := hi.inj _ _ b k1 hb
      rw [hpas _ _ _ e1] at hq; cases hq
    | some o' =>
      obtain ⟨φ', e'⟩ := Sg.get_of_inv B.good hq
      obtain ⟨ob1, ob', h1, h2, h3⟩ := B.bwd o' o φ' e'
      rw [ho] at h3; cases h3
      rw [hout o' o φ' e']
      exact RepO.ren hsg' h2 (S.inv.obj o' ob1 h1)

theorem Inv.back {im im' : Nat → Prop} {μ μ' : Mu} {s1 : ASt} {a : Act} {w w' : World} {σ σ' : Sg} {h0 H1 : Hp} {wr : List (Nat × AObj)} (hi : Inv C im μ s1 a w) (H : Handed σ s1.hp h0) (B : Back σ σ' s1.hp H1 wr)
    (S : HpStep w im (muIn σ μ) h0 w' im' μ' H1) {dst : Option Nat} (hd : ∀ d, dst = some d → d < C.n) {av : AV} {v : Value} (hv : RepV w' im' (muOut σ' μ' μ) (hpSet s1.hp wr) av v) :
    Inv C im' (muOut σ' μ' μ) ⟨(s1.put dst av).fr, hpSet s1.hp wr⟩ (a.put dst v) w' := (hi.backE H B S hd hv).1

end
end Go.Vm
namespace Go.Vm

section
variable {P : Program} {C : Ctx} {s : ASt}

theorem ren_plain {σ : Sg} {a a' : AV} (h : a.ren σ = some a') : a.plain = true := by cases a <;> first | rfl | (simp only [AV.ren] at h; cases h)

theorem repFs_of_rens {w : World} {im : Nat → Prop} {μ : Mu} {hp : Hp} {σ : Sg} : ∀ {l l' : List AV} {vs : List Value}, rens σ l = some l' → vs.length = l.length → (∀ (i : Nat) (a : AV) (v : Value), l[i]? = some a → vs[i]? = some v → RepV w im μ hp a v) → RepFs w im μ hp l vs
  | [], _, vs, _, hl, _ => by
    have : vs = [] := List.eq_nil_of_length_eq_zero (by simpa using hl)
    subst this; simp [RepFs]
  | a :: l, l', v :: vs, h, hl, hr => by
    simp only [rens] at h
    cases h1 : a.ren σ with
    | none => rw [h1] at h; cases h
    | some a1 =>
      rw [h1] at h
      simp only at h
      cases h2 : rens σ l with
      | none => rw [h2] at h; cases h
      | some l1 =>
        obtain ⟨g1, g2⟩ := (hr 0 a v rfl rfl).toA (ren_plain h1)
        simp only [RepFs]
        exact ⟨v, vs, rfl, g1, g2, repFs_of_rens h2 (by simpa using hl) (fun i b u hb hu => hr (i + 1) b u (by simpa using hb) (by simpa using hu))⟩
  | _ :: _, _, [], _, hl, _ => by simp at hl

theorem rens_append {σ : Sg} : ∀ {l m r : List AV}, rens σ (l ++ m) = some r → ∃ l' m', rens σ l = some l' ∧ rens σ m = some m' ∧ r = l' ++ m'
  | [], m, r, h => ⟨[], r, rfl, h, rfl⟩
  | a :: l, m, r, h => by
    simp only [List.cons_append, rens] at h ⊢
    cases h1 : a.ren σ with
    | none => rw [h1] at h; cases h
    | some a1 =>
      rw [h1] at h
      simp only at h ⊢
      cases h2 : rens σ (l ++ m) with
      | none => rw [h2] at h; cases h
      | some r1 =>
        rw [h2] at h
        cases h
        obtain ⟨l', m', g1, g2, rfl⟩ := rens_append h2
        exact ⟨a1 :: l', m', by rw [g1], g2, rfl⟩

theorem RepFs.append {w : World} {im : Nat → Prop} {μ : Mu} {hp : Hp} : ∀ {l m : List AV} {vs us : List Value}, RepFs w im μ hp l vs → RepFs w im μ hp m us → RepFs w im μ hp (l ++ m) (vs ++ us)
  | [], _, vs, us, h, h' => by
    simp only [RepFs] at h; subst h; exact h'
  | a :: l, m, vs, us, h, h' => by
    simp only [RepFs] at h
    obtain ⟨v, vs', rfl, h1, h2, h3⟩ := h
    simp only [List.cons_append, RepFs]
    exact ⟨v, vs' ++ us, rfl, h1, h2, RepFs.append h3 h'⟩

theorem Handed.of_agree {σ : Sg} {hp hp1 h0 : Hp} (H : Handed σ hp h0) (hk : ∀ o o' φ, σ.get o = some (o', φ) → hp1 o = hp o) : Handed σ hp1 h0 :=
  ⟨H.good, fun o o' φ h => by rw [hk o o' φ h]; exact H.fwd o o' φ h, H.dom⟩

theorem Back.of_agree {σ σ' : Sg} {hp hp1 H1 : Hp} {wr : List (Nat × AObj)} (B : Back σ σ' hp H1 wr) (hall : ∀ o' o φ, σ'.get o' = some (o, φ) → o ∈ wr.map (·.1)) (hk : ∀ o, o ∈ wr.map (·.1) → hp1 o = hp o) : Back σ σ' hp1 H1 wr :=
  ⟨B.good, fun o' o φ h => by
    obtain ⟨ob, ob', h1, h2, h3⟩ := B.bwd o' o φ h
    exact ⟨ob, ob', h1, h2, by rw [hpSet_congr (hp' := hp) (hall o' o φ h)]; exact h3⟩, B.passed, fun o' o φ h => (B.fresh o' o φ h).imp id fun ⟨a, b⟩ => ⟨a, by rw [hk o (hall o' o φ h)]; exact b⟩, B.keys⟩

/-- the state behind, and how it came of the one ahead -/
def RelE (C : Ctx) (s1 : ASt) (w : World) (s2 : ASt) (a' : Act) (w' : World) : Prop := ∃ im μ im' μ' a, Inv C im μ s1 a w ∧ Inv C im' μ' s2 a' w' ∧ Ev w im μ s1.hp w' im' μ' s2.hp
theorem RelE.rel {s1 s2 : ASt} {w w' : World} {a' : Act} (h : RelE C s1 w s2 a' w') : Rel C s2 a' w' := by
  obtain ⟨_, _, im', μ', _, _, h, _⟩ := h
  exact ⟨im', μ', h⟩
/-- arrays that turn no more are what they were -/
theorem RelE.keep {s1 s2 : ASt} {w w' : World} {a' : Act} {hp2 : Hp} (h : RelE C s1 w s2 a' w')
    (hk : ∀ o, hp2 o = s2.hp o ∨ ∃ (T : TypeId) (e : Ty) (m : Nat) (xs : List e.den) (T' : TypeId) (e' : Ty) (xs' : List e'.den), s1.hp o = some (.arr T e m true xs) ∧ s2.hp o = some (.arr T' e' m true xs') ∧ hp2 o = s1.hp o) : Rel C ⟨s2.fr, hp2⟩ a' w' := by
  obtain ⟨im, μ, im', μ', a, hi, hi', hev⟩ := h
  have old : ∀ (o : Nat) (T : TypeId) (e : Ty) (m : Nat) (xs : List e.den) (T' : TypeId) (e' : Ty) (xs' : List e'.den), s1.hp o = some (.arr T e m true xs) → s2.hp o = some (.arr T' e' m true xs') →
      ObEv (.arr T' e' m true xs') (μ' o) (.arr T e m true xs) (μ' o) ∧ RepO w' im' μ' hp2 (μ' o) (.arr T e m true xs) := by
    intro o T e m xs T' e' xs' h1 h2
    obtain ⟨ob', g1, m1, z1, ys, rfl, g2⟩ := hev.fob o _ h1
    rw [h2] at g1
    cases g1
    rcases g2 with ⟨_, g3, g4⟩ | g2
    · have hr := hi.obj o _ h1
      have hmu : μ' o = μ o := by
        rcases g4 with g4 | ⟨b, cap, g4, g5⟩
        · exact g4
        · rcases hr with ⟨ad, hr, _⟩ | ⟨hr, _⟩ | ⟨_, b', cap', cs, hr, _⟩
          · rw [g4] at hr; cases hr
          · cases hr
          · rw [g4] at hr; cases hr
      refine ⟨⟨m, true, xs, rfl, .inl ⟨rfl, g3.symm, .inl rfl⟩⟩, ?_⟩
      rw [hmu]
      rcases hr with hr | ⟨hr, _⟩ | ⟨_, b', cap', cs, q1, q2, q3, q4, q5, q6⟩
      · exact .inl hr
      · cases hr
      · exact .inr (.inr ⟨rfl, b', cap', cs, q1, hev.fim _ q2, q3, q4, q5.mono (hev.fheap _ q2), RepL.mono (RepD.mono hev.fim hev.fheap e) _ _ q6⟩)
    · omega
  have ev2 : Ev w' im' μ' s2.hp w' im' μ' hp2 := by
    refine ⟨fun _ h => h, fun _ _ => rfl, fun o ob ho => ?_⟩
    rcases hk o with h | ⟨T, e, m, xs, T', e', xs', h1, h2, h3⟩
    · exact ⟨ob, by rw [h]; exact ho, ObEv.refl _ _⟩
    · rw [h2] at ho
      cases ho
      exact ⟨_, h3.trans h1, (old o T e m xs T' e' xs' h1 h2).1⟩
  refine ⟨im', μ', hi'.os, hi'.tape, hi'.output, hi'.grow, hi'.old, hi'.imC, hi'.imNew, hi'.imLt, hi'.sep, hi'.inj, fun o ho => ?_, fun o ob ho => ?_, fun g v hg => (hi'.glob g v hg).ev ev2, fun x => (hi'.fr x).ev ev2, hi'.size, hi'.defers, fun o ob ho => ?_⟩
  · rcases hk o with h | ⟨T, e, m, xs, T', e', xs', h1, h2, h3⟩
    · exact hi'.dom o (h.symm.trans ho)
    · have ho' : hp2 o = none := ho
      rw [h3, h1] at ho'; cases ho'
  · rcases hk o with h | ⟨T, e, m, xs, T', e', xs', h1, h2, h3⟩
    · exact (hi'.obj o ob (h.symm.trans ho)).ev ev2 fun _ _ => rfl
    · have ho' : hp2 o = some ob := ho
      rw [h3, h1] at ho'
      cases ho'
      exact (old o T e m xs T' e' xs' h1 h2).2
  · obtain ⟨ob', g1, g2⟩ := hi'.pin o ob ho
    obtain ⟨ob2, k1, k2⟩ := ev2.fob o _ g1
    exact ⟨ob2, k1, g2.trans k2⟩

theorem call_wp {o : Oper} {x : Operand} {xs : Array Operand} {at' : Array TypeId} {f : FuncId} {cap args : List AV} {σ σ' : Sg} {h0 H1 : Hp} {wr : List (Nat × AObj)} {AE : AEnd} (ho : o.op = .call ⟨.value x, xs, at'⟩) (hg : GlobFree C)
    (hx : s.ev C x = .fn (.func f) [] cap) (hargs : rens σ (xs.toList.map (s.ev C) ++ cap) = some args) (H : Handed σ s.hp h0) (hf : FnH P C.Γ f args h0 (fun ae h1 => ae = AE ∧ h1 = H1)) (B : Back σ σ' s.hp H1 wr)
    (hall : ∀ o' o φ, σ'.get o' = some (o, φ) → o ∈ wr.map (·.1))
    {s1 : ASt} (hop : ∀ y ∈ o.op.operands.toList, s1.ev C y = s.ev C y) (hhp : ∀ k, k ∈ wr.map (·.1) → s1.hp k = s.hp k) {a : Act} {w : World} (hr : Rel C s1 a w) (hd : ∀ d, o.dst = some d → d < C.n)
    (K : Act → World → Prop) (Q : Exit → Act → World → Prop)
    (hret : ∀ (rs rs' : List AV) (a' : Act) (w' : World), AE = .ret rs → rens σ' rs = some rs' → RelE C s1 w ⟨(s1.put o.dst (retAV rs')).fr, hpSet s1.hp wr⟩ a' w' → K a' w')
    (hren : ∀ rs, AE = .ret rs → ∃ rs', rens σ' rs = some rs')
    (hpan : ∀ (t : TypeId) (n : Int) (w' : World), AE = .panic t n → Rel C ⟨s1.fr, hpSet s1.hp wr⟩ a w' → Q (.panic [{ v := .iface t (.int .i64 n), recovered := false }]) a w') : o.wpIn (fen C.rd) 0 P a w K Q := by
  obtain ⟨im, μ, hi⟩ := hr
  have hpas : ∀ o o' φ, σ.get o = some (o', φ) → s1.hp o = s.hp o := fun o o' φ h => by
    obtain ⟨φ', e, _⟩ := B.passed o o' φ h
    exact hhp o (hall _ _ _ e)
  have H1' := H.of_agree hpas
  have B1 := B.of_agree hall hhp
  have hx1 : s1.ev C x = .fn (.func f) [] cap := (hop x (by rw [ho]; simp [Op.operands, Call.operands])).trans hx
  obtain ⟨hr, hag⟩ := hx1 ▸ hi.ev x
  simp only [RepA, RepFs] at hr
  obtain ⟨vs, us, hcell, hvs, hus⟩ := hr
  subst hvs
  have hv : a.eval x = .func (.func f) #[] us.toArray := by
    generalize a.eval x = v at hcell hag
    cases v <;> simp_all [Value.cells, vIsAgg, AV.isAgg]
  obtain ⟨la, lc, ra, rc, hargs'⟩ := rens_append hargs
  have hA : RepFs w im μ s1.hp (xs.toList.map (s.ev C)) (xs.toList.map a.eval) := by
    refine repFs_of_rens ra (by simp) ?_
    intro i b u hb hu
    rw [List.getElem?_map, Option.map_eq_some_iff] at hb hu
    obtain ⟨y, hy, rfl⟩ := hb
    obtain ⟨y', hy', rfl⟩ := hu
    obtain rfl : y = y' := Option.some.inj (hy.symm.trans hy')
    have hm : y ∈ o.op.operands.toList := by
      rw [ho]
      simp only [Op.operands, Call.operands, Array.toList_append]
      exact List.mem_append.2 (.inr (List.mem_of_getElem? hy))
    rw [← hop y hm]; exact hi.ev y
  have hAll := RepFs.append hA hus
  obtain ⟨hI, hS⟩ := H1'.inv (fun o b h => ⟨(hi.sep o b h).1, (hi.sep o b h).2.1⟩) hi.inj hi.obj
  have hAll' := RepFs.ren hS _ _ _ hargs hAll
  have hcalls := hf.2 w im (muIn σ μ) _ hi.imLt (fun g v h => by
    obtain ⟨h1, h2⟩ := (hi.glob g v h).toA (free_plain (hg g v h))
    exact RepV.ofA (RepA.free _ _ (hg g v h) h1) h2) hI hAll'
  have hrun : (execOp a.eval o).run P w = .ok (.enter f (xs.toList.map a.eval ++ us).toArray) w := by
    have := hf.1 (xs.map a.eval ++ us.toArray) w
    have e : (xs.toList.map a.eval ++ us).toArray = xs.map a.eval ++ us.toArray := by apply Array.ext'; simp
    rw [e]
    simp only [execOp, ho, resolve, hv, Deferred.ofValue, Sem.run_bind, Sem.run_pure, Result.andThen_ok, invoke, Array.empty_append, this]
  refine ⟨fun f _ => fen_fn _ f, ?_⟩
  rw [Oper.semAt_eq _ _ _ (by intro c hc; rw [ho] at hc; cases hc), hrun, Oper.uponIn_enter]
  refine ⟨(fun h => nomatch h), ?_⟩
  have hci : CallsIn (fen C.rd) (0 - 1) P f (xs.toList.map a.eval ++ us).toArray w _ := (callsIn_wide (n := 0 - 1)).2 hcalls
  refine hci.mono ?_
  rintro e w' ⟨ae, h1, im', μ', ⟨rfl, rfl⟩, hst, he⟩
  have hback := fun (dst : Option Nat) (hd : ∀ d, dst = some d → d < C.n) (av : AV) (v : Value) hv => hi.backE (dst := dst) H1' B1 hst hd (av := av) (v := v) hv
  cases ae with
  | ret rs =>
    obtain ⟨v, rfl, vs, hvs, hveq⟩ := endRep_ret he
    obtain ⟨rs', hrs⟩ := hren rs rfl
    have hsg' : SgOK σ' μ' (muOut σ' μ' μ) h1 (hpSet s1.hp wr) := ⟨fun o' o φ h => ⟨by simp only [muOut, Sg.inv_of_get B1.good h], fun ob hob => by
      obtain ⟨ob1, ob', g1, g2, g3⟩ := B1.bwd o' o φ h
      rw [hob] at g1; cases g1
      exact ⟨ob', g3, AObj.ren_obR g2⟩⟩⟩
    have hv' := retAV_rep (RepFs.ren hsg' _ _ _ hrs hvs)
    rw [← hveq] at hv'
    exact hret rs rs' _ _ rfl hrs ⟨im, μ, im', _, a, hi, (hback o.dst hd _ v hv').1, (hback o.dst hd _ v hv').2⟩
  | panic t n =>
    have he' : e = .panicked [{ v := .iface t (.int .i64 n), recovered := false }] := he
    subst he'
    exact hpan t n w' rfl ⟨im', _, (hback none (fun d h => by cases h) .undef Go.undef trivial).1⟩

/-- a call that returns -/
theorem opW_call {o : Oper} {x : Operand} {xs : Array Operand} {at' : Array TypeId} {f : FuncId} {cap args rs rs' : List AV} {σ σ' : Sg} {h0 H1 : Hp} {wr : List (Nat × AObj)} (ho : o.op = .call ⟨.value x, xs, at'⟩) (hg : GlobFree C)
    (hx : s.ev C x = .fn (.func f) [] cap) (hargs : rens σ (xs.toList.map (s.ev C) ++ cap) = some args) (H : Handed σ s.hp h0) (hf : FnH P C.Γ f args h0 (fun ae h1 => ae = .ret rs ∧ h1 = H1)) (B : Back σ σ' s.hp H1 wr)
    (hall : ∀ o' o φ, σ'.get o' = some (o, φ) → o ∈ wr.map (·.1)) (hrs : rens σ' rs = some rs') : OpW P C o ⟨o.dst, retAV rs', [], wr⟩ s := by
  intro s1 hop hhp a w hr hd K Q hK
  refine call_wp ho hg hx hargs H hf B hall hop (fun k hk => hhp k (.inr hk)) hr hd K Q ?_ ?_ ?_
  · intro r1 r2 a' w' e1 e2 hr'
    cases e1
    rw [hrs] at e2; cases e2
    exact hK a' w' hr'.rel
  · intro r1 e1; cases e1; exact ⟨rs', hrs⟩
  · intro t n w' e1; cases e1

/-- the same, where arrays that turn no more are left as they were -/
theorem opW_callF {o : Oper} {x : Operand} {xs : Array Operand} {at' : Array TypeId} {f : FuncId} {cap args rs rs' : List AV} {σ σ' : Sg} {h0 H1 : Hp} {wr wr2 : List (Nat × AObj)} {rd2 : List Nat} (ho : o.op = .call ⟨.value x, xs, at'⟩) (hg : GlobFree C)
    (hx : s.ev C x = .fn (.func f) [] cap) (hargs : rens σ (xs.toList.map (s.ev C) ++ cap) = some args) (H : Handed σ s.hp h0) (hf : FnH P C.Γ f args h0 (fun ae h1 => ae = .ret rs ∧ h1 = H1)) (B : Back σ σ' s.hp H1 wr)
    (hall : ∀ o' o φ, σ'.get o' = some (o, φ) → o ∈ wr.map (·.1)) (hrs : rens σ' rs = some rs')
    (hrd : ∀ k ∈ wr.map (·.1), k ∈ rd2 ∨ k ∈ wr2.map (·.1))
    (hk : ∀ (h1 : Hp), (∀ k ∈ wr.map (·.1), h1 k = s.hp k) → ∀ o, hpSet h1 wr2 o = hpSet h1 wr o ∨ ∃ (T : TypeId) (e : Ty) (m : Nat) (xs : List e.den) (T' : TypeId) (e' : Ty) (xs' : List e'.den), h1 o = some (.arr T e m true xs) ∧ hpSet h1 wr o = some (.arr T' e' m true xs') ∧ hpSet h1 wr2 o = h1 o) :
    OpW P C o ⟨o.dst, retAV rs', rd2, wr2⟩ s := by
  intro s1 hop hhp a w hr hd K Q hK
  have hag : ∀ k ∈ wr.map (·.1), s1.hp k = s.hp k := fun k hk => hhp k (hrd k hk)
  refine call_wp ho hg hx hargs H hf B hall hop hag hr hd K Q ?_ ?_ ?_
  · intro r1 r2 a' w' e1 e2 hr'
    cases e1
    rw [hrs] at e2; cases e2
    exact hK a' w' (hr'.keep (hk s1.hp hag))
  · intro r1 e1; cases e1; exact ⟨rs', hrs⟩
  · intro t n w' e1; cases e1

/-- a call that panics -/
theorem wp_call_panic {o : Oper} {x : Operand} {xs : Array Operand} {at' : Array TypeId} {f : FuncId} {cap args : List AV} {t : TypeId} {n : Int} {σ σ' : Sg} {h0 H1 : Hp} {wr : List (Nat × AObj)} (ho : o.op = .call ⟨.value x, xs, at'⟩) (hg : GlobFree C)
    (hx : s.ev C x = .fn (.func f) [] cap) (hargs : rens σ (xs.toList.map (s.ev C) ++ cap) = some args) (H : Handed σ s.hp h0) (hf : FnH P C.Γ f args h0 (fun ae h1 => ae = .panic t n ∧ h1 = H1)) (B : Back σ σ' s.hp H1 wr)
    (hall : ∀ o' o φ, σ'.get o' = some (o, φ) → o ∈ wr.map (·.1)) {a : Act} {w : World} (hr : Rel C s a w) (hd : ∀ d, o.dst = some d → d < C.n) (K : Act → World → Prop) {Q : AEx → ASt → Prop} (hQ : Q (.panic t n) ⟨s.fr, hpSet s.hp wr⟩) :
    o.wpIn (fen C.rd) 0 P a w K (lft C Q) := by
  refine call_wp ho hg hx hargs H hf B hall (fun _ _ => rfl) (fun _ _ => rfl) hr hd K _ ?_ ?_ ?_
  · intro r1 r2 a' w' e1; cases e1
  · intro r1 e1; cases e1
  · intro t' n' w' e1 hr'
    cases e1
    exact ⟨.panic t n, _, rfl, hQ, hr'⟩

/-! ### a function's body -/

/-- what a function hands back, in the state in which it ends -/
inductive RetAll (P : Program) (s : ASt) : List ResultVar → List AV → Prop
  | nil : RetAll P s [] []
  | tmp {t : Nat} {a : AV} {l : List ResultVar} {l' : List AV} : s.fr t = a → a.plain = true → RetAll P s l l' → RetAll P s (.tmp t :: l) (a :: l')
  | cell {t o : Nat} {T : TypeId} {a : AV} {l : List ResultVar} {l' : List AV} : s.fr t = .op o [] 0 → s.hp o = some (.box a) → TyS P T a.asize a.isAgg → RetAll P s l l' → RetAll P s (.cell t T :: l) (a :: l')

def resOne (tmps : Array Value) : ResultVar → Sem Value
  | .tmp t => pure (tmps.getD t Go.undef)
  | .cell x t => do loadVar t (← asAddr (tmps.getD x Go.undef))

theorem results_run {im : Nat → Prop} {μ : Mu} {a : Act} {w : World} (hi : Inv C im μ s a w) : ∀ {l : List ResultVar} {l' : List AV}, RetAll P s l l' →
    ∃ vs : List Value, (l.mapM (resOne a.tmps)).run P w = .ok vs w ∧ RepFs w im μ s.hp l' vs
  | _, _, .nil => ⟨[], rfl, by simp [RepFs]⟩
  | _, _, .tmp (t := t) hz hpl h => by
    obtain ⟨vs, h1, h2⟩ := results_run hi h
    obtain ⟨g1, g2⟩ := (hz ▸ hi.fr t).toA hpl
    refine ⟨a.tmps.getD t Go.undef :: vs, ?_, ?_⟩
    · simp only [List.mapM_cons, resOne, Sem.run_bind, Sem.run_pure, Result.andThen_ok, h1]
    · simp only [RepFs]
      exact ⟨_, vs, rfl, g1, g2, h2⟩
  | _, _, .cell (t := t) (o := o) (T := T) (a := v) hfr ho ht h => by
    obtain ⟨vs, h1, h2⟩ := results_run hi h
    obtain ⟨b, u, h3, h4, h5⟩ := ptr_eq (hfr ▸ hi.fr t)
    obtain ⟨b', cells, T', he, hc, hr⟩ := hi.obj o _ ho
    obtain rfl : b' = b := by rw [h3] at he; cases he; rfl
    have hl := run_loadVar' ht w (cellsAt_block hc) (RepA.length _ _ hr) (fun hag => asize_one hag)
    obtain ⟨g1, g2⟩ := (hr.toV).toA (AV.plain_of_RepA hr)
    refine ⟨mkVal v.isAgg cells.toList :: vs, ?_, ?_⟩
    · simp only [List.mapM_cons, resOne, Sem.run_bind, h5, asAddr, Sem.run_pure, Result.andThen_ok, hl, h1]
    · simp only [RepFs]
      exact ⟨_, vs, rfl, g1, g2, h2⟩

def initFr : List AV → Nat → AV
  | [], _ => .undef
  | a :: _, 0 => a
  | _ :: l, x + 1 => initFr l x

theorem initFr_get : ∀ (l : List AV) (x : Nat), initFr l x = (l[x]?).getD .undef
  | [], x => by simp [initFr]
  | a :: l, 0 => rfl
  | a :: l, x + 1 => by simp only [initFr, List.getElem?_cons_succ]; exact initFr_get l x

def ctxH (W : World) (im : Nat → Prop) (μ : Mu) (h0 : Hp) (n : Nat) (Γ : Nat → Option AV) (nm : Bool := false) : Ctx := ⟨W, im, fun b => ∃ o, (μ o).blk = some b, n, [], Γ, h0, μ, none, nm⟩

theorem repFs_length {W : World} {im : Nat → Prop} {μ : Mu} {hp : Hp} : ∀ {l : List AV} {vs : List Value}, RepFs W im μ hp l vs → vs.length = l.length
  | [], vs, h => by simp only [RepFs] at h; subst h; rfl
  | a :: l, vs, h => by simp only [RepFs] at h; obtain ⟨v, us, rfl, _, _, h3⟩ := h; simp [repFs_length h3]

theorem init_inv {Γ : Nat → Option AV} {W : World} {im : Nat → Prop} {μ : Mu} {h0 : Hp} {vals : List Value} {args : List AV} {n : Nat} (him : ∀ b, im b → b < W.heap.size) (hgf : ∀ g v, Γ g = some v → v.free = true) (hglob : GlobOK Γ W im) (hI : HpInv W im μ h0)
    (hargs : RepFs W im μ h0 args vals) (hn : args.length ≤ n) (nm : Bool := false) : Inv (ctxH W im μ h0 n Γ nm) im μ ⟨initFr args, h0⟩ { tmps := vals.toArray ++ Array.replicate (n - vals.toArray.size) Go.undef, defers := [] } W := by
  have hlen := repFs_length hargs
  refine ⟨rfl, rfl, rfl, Nat.le_refl _, fun _ _ _ => rfl, fun _ h => h, fun _ h => .inl h, him, (fun o b h => ⟨(hI.sep o b h).1, (hI.sep o b h).2, .inl ⟨o, h⟩⟩), hI.inj, hI.dom, hI.obj, fun g v h => ?_, ?_, ?_, ⟨[], rfl, List.nodup_nil, fun _ => rfl, fun r hr => by cases hr⟩, fun o ob h => ⟨ob, h, ObEv.refl _ _⟩⟩
  · obtain ⟨h1, h2⟩ := (hglob g v h).toA (free_plain (hgf g v h))
    exact RepV.ofA (RepA.free _ _ (hgf g v h) h1) h2
  · intro x
    simp only
    rw [initFr_get]
    cases hx : args[x]? with
    | none => trivial
    | some av =>
      obtain ⟨v, h1, h2, h3⟩ := RepFs.get hargs hx
      have hlt : x < vals.length := (List.getElem?_eq_some_iff.1 h1).1
      have : (vals.toArray ++ Array.replicate (n - vals.toArray.size) Go.undef).getD x Go.undef = v := by
        rw [Array.getD_eq_getD_getElem?, Array.getElem?_append_left (by simpa using hlt)]
        simp [h1]
      rw [this]
      exact RepV.ofA h2 h3
  · simp [ctxH]; omega

theorem results_end {fn : Func} {tmps : Array Value} {w : World} {im : Nat → Prop} {μ : Mu} {hp : Hp} {rs : List AV} {vs : List Value} (h1 : (fn.results.toList.mapM (resOne tmps)).run P w = .ok vs w) (h2 : RepFs w im μ hp rs vs) :
    ∃ v, (results fn tmps).run P w = .ok v w ∧ EndRep w im μ hp (.ret rs) (.returned v) := by
  have hmapM : (fn.results.mapM (resOne tmps)).run P w = .ok vs.toArray w := by
    rw [Array.mapM_eq_mapM_toList, Sem.run_map, h1]; rfl
  have key : ∀ g : ResultVar → Sem Value, (∀ r, g r = resOne tmps r) → ((do let us ← fn.results.mapM g; pure (if h : us.size = 1 then us[0] else .tuple us)) : Sem Value).run P w = .ok (if h : vs.toArray.size = 1 then vs.toArray[0] else .tuple vs.toArray) w := by
    intro g hg
    obtain rfl : g = resOne tmps := funext hg
    simp only [Sem.run_bind, hmapM, Result.andThen_ok]
    rfl
  refine ⟨if h : vs.toArray.size = 1 then vs.toArray[0] else .tuple vs.toArray, ?_, ?_⟩
  · unfold results
    exact key _ (fun r => by cases r <;> rfl)
  · match rs, vs, h2 with
    | [], vs, h2' => 
      simp only [RepFs] at h2'
      subst h2'
      exact ⟨[], rfl, by simp [RepFs]⟩
    | [r], vs, h2' =>
      simp only [RepFs] at h2'
      obtain ⟨v, us, rfl, g1, g2, rfl⟩ := h2'
      exact ⟨v, rfl, g1, g2⟩
    | r :: r' :: rs, vs, h2' =>
      have h3 := h2'
      simp only [RepFs] at h3
      obtain ⟨v, us, rfl, g1, g2, v', us', rfl, _⟩ := h3
      exact ⟨v :: v' :: us', by simp, h2'⟩

/-- every mark's block is shut -/
structure Shut (rs : List Nat) (w w' : World) : Prop where
  os : w'.os = w.os
  tape : w'.tape = w.tape
  output : w'.output = w.output
  size : w'.heap.size = w.heap.size
  heap : ∀ b, b ∉ rs → w'.heap[b]? = w.heap[b]?

theorem leaves_marks {F : Fence} {n : Nat} {fn : Func} {tmps : Array Value} {R : Ending → World → Prop} {ds : List Deferred} {u : FrameMode} (hu : u ≠ .run) : ∀ (rs : List Nat) (w : World), rs.Nodup → (∀ r ∈ rs, w.heap[r]? = some (.deferred (some []))) →
    (∀ w', Shut rs w w' → LeavesInM F n P fn tmps R ds u w') → LeavesInM F n P fn tmps R (rs.map mark ++ ds) u w
  | [], w, _, _, h => h w ⟨rfl, rfl, rfl, rfl, fun _ _ => rfl⟩
  | r :: rs, w, hn, hr, h => by
    obtain ⟨hn1, hn2⟩ := List.nodup_cons.1 hn
    have h0 := hr r (by simp)
    refine ⟨hu, .inl ⟨r, _, rfl, run_takeDeferred h0, leaves_marks hu rs _ hn2 (fun r' hr' => ?_) (fun w' hs => h w' ?_)⟩⟩
    · rw [World.putObj_heap_other (by rintro rfl; exact hn1 hr')]
      exact hr r' (by simp [hr'])
    · refine ⟨hs.os, hs.tape, hs.output, by rw [hs.size]; simp, fun b hb => ?_⟩
      rw [hs.heap b (fun hm => hb (by simp [hm])), World.putObj_heap_other (by rintro rfl; exact hb (by simp))]

theorem Inv.unmark {C : Ctx} {im : Nat → Prop} {μ : Mu} {s : ASt} {a : Act} {w w' : World} {rs : List Nat} (hi : Inv C im μ s a w) (hm : Marks C im μ w rs) (hs : Shut rs w w') : Inv C im μ s { a with defers := C.defers } w' := by
  have hb : ∀ b, (∀ o, (μ o).blk ≠ some b) ∨ True → b ∉ rs → w'.heap[b]? = w.heap[b]? := fun b _ h => hs.heap b h
  have him : ∀ b, im b → b ∉ rs := fun b h hr => (hm.all b hr).2.2.1 h
  have hbl : ∀ o b, (μ o).blk = some b → b ∉ rs := fun o b h hr => (hm.all b hr).2.2.2.1 o h
  have ev : Ev w im μ s.hp w' im μ s.hp := ⟨fun _ h => h, fun b h => hs.heap b (him b h), fun o ob ho => ⟨ob, ho, ObEv.refl _ _⟩⟩
  exact ⟨hs.os.trans hi.os, hs.tape.trans hi.tape, hs.output.trans hi.output, by rw [hs.size]; exact hi.grow, fun b h1 h2 => (hs.heap b (fun hr => by have := (hm.all b hr).1; omega)).trans (hi.old b h1 h2), hi.imC, hi.imNew, fun b h => by rw [hs.size]; exact hi.imLt b h,
    fun o b h => by rw [hs.size]; exact hi.sep o b h, hi.inj, hi.dom, fun o ob ho => (hi.obj o ob ho).ev ev (fun b h => hs.heap b (hbl o b h)), fun g v hg => (hi.glob g v hg).ev ev, fun x => (hi.fr x).ev ev, hi.size, ⟨[], by simp, List.nodup_nil, fun _ => rfl, fun r hr => by cases hr⟩, hi.pin⟩

/-! ### a state under other names -/

/-- slot by slot: nothing is known, or what was known, renamed -/
def RenV (σ : Sg) (a a' : AV) : Prop := a' = .undef ∨ a.ren σ = some a' ∨ ∃ l l', a = .tup l ∧ a' = .tup l' ∧ rens σ l = some l'

theorem RenV.sound {w : World} {im : Nat → Prop} {μ μ' : Mu} {hp hp' : Hp} {σ : Sg} {a a' : AV} (h : SgOK σ μ μ' hp hp') (hr : RenV σ a a') {v : Value} (hv : RepV w im μ hp a v) : RepV w im μ' hp' a' v := by
  rcases hr with rfl | hr | ⟨l, l', rfl, rfl, hr⟩
  · trivial
  · obtain ⟨h1, h2⟩ := hv.toA (ren_plain hr)
    exact RepV.ofA (RepA.ren h _ _ _ hr h1) (h2.trans (AV.ren_agg _ _ hr))
  · obtain ⟨vs, e, h1⟩ := hv
    exact ⟨vs, e, RepFs.ren h _ _ _ hr h1⟩

theorem ObEv.obR {ob ob1 ob2 : AObj} {p q : Pl} (h2 : ObEv ob p ob1 q) (h4 : ObR .keep ob1 ob2) : ObEv ob p ob2 q := by
  cases ob1 with
  | box v =>
    cases ob2 with
    | arr _ _ _ _ _ => exact h4.elim
    | rc _ => exact h4.elim
    | box v2 =>
      cases ob with
      | box v0 => exact h2
      | rc _ => exact h2.elim
      | arr T e m z xs => obtain ⟨_, _, _, h5, _⟩ := h2; cases h5
  | rc v =>
    cases ob2 with
    | arr _ _ _ _ _ => exact h4.elim
    | box _ => exact h4.elim
    | rc v2 =>
      cases ob with
      | box v0 => exact h2.elim
      | rc _ => exact ⟨h2.1, (show v2.isMap = v.isMap from h4).trans h2.2⟩
      | arr T e m z xs => obtain ⟨_, _, _, h5, _⟩ := h2; cases h5
  | arr T e m z xs =>
    obtain ⟨m', h5, rfl⟩ := h4
    cases h5
    exact h2

theorem le_view {s s' : ASt} {σ : Sg} (hg : GlobFree C) (H : Handed σ s.hp s'.hp) (hfr : ∀ x, RenV σ (s.fr x) (s'.fr x)) (hpin : ∀ o ob, C.h0 o = some ob → σ.get o = some (o, .keep)) : Le C s s' := by
  rintro a w ⟨im, μ, hi⟩
  obtain ⟨hI, hS⟩ := H.inv (fun o b h => ⟨(hi.sep o b h).1, (hi.sep o b h).2.1⟩) hi.inj hi.obj
  have hinb : ∀ o' b, (muIn σ μ o').blk = some b → ∃ o, (μ o).blk = some b := fun o' b h => by
    unfold muIn at h
    cases hq : σ.inv o' with
    | none => rw [hq] at h; cases h
    | some o => rw [hq] at h; exact ⟨o, h⟩
  refine ⟨im, muIn σ μ, hi.os, hi.tape, hi.output, hi.grow, hi.old, hi.imC, hi.imNew, hi.imLt, ?_, hI.inj, hI.dom, hI.obj, ?_, fun x => (hfr x).sound hS (hi.fr x), hi.size, ?_, ?_⟩
  · intro o' b h
    obtain ⟨o, h1⟩ := hinb o' b h
    exact hi.sep o b h1
  · intro g v h
    obtain ⟨h1, h2⟩ := (hi.glob g v h).toA (free_plain (hg g v h))
    exact RepV.ofA (RepA.free _ _ (hg g v h) h1) h2
  · obtain ⟨rs, h1, h2⟩ := hi.defers
    refine ⟨rs, h1, h2.nodup, h2.none, fun r hr => ?_⟩
    obtain ⟨g1, g2, g3, g4, g5⟩ := h2.all r hr
    exact ⟨g1, g2, g3, fun o' ho' => by obtain ⟨o, h⟩ := hinb o' r ho'; exact g4 o h, g5⟩
  · intro o ob h
    have hσ := hpin o ob h
    obtain ⟨ob1, h1, h2⟩ := hi.pin o ob h
    obtain ⟨g1, g2⟩ := hS.ob o o .keep hσ
    obtain ⟨ob2, h3, h4⟩ := g2 ob1 h1
    refine ⟨ob2, h3, ?_⟩
    rw [g1]
    cases ob1 with
    | box v =>
      cases ob2 with
      | arr _ _ _ _ _ => exact h4.elim
      | rc _ => exact h4.elim
      | box v2 =>
        cases ob with
        | box v0 => exact h2
        | rc _ => exact h2.elim
        | arr T e m z xs => obtain ⟨_, _, _, h5, _⟩ := h2; cases h5
    | rc v =>
      cases ob2 with
      | arr _ _ _ _ _ => exact h4.elim
      | box _ => exact h4.elim
      | rc v2 =>
        cases ob with
        | box v0 => exact h2.elim
        | rc _ => exact ⟨h2.1, (show v2.isMap = v.isMap from h4).trans h2.2⟩
        | arr T e m z xs => obtain ⟨_, _, _, h5, _⟩ := h2; cases h5
    | arr T e m z xs =>
      obtain ⟨m', h5, rfl⟩ := h4
      cases h5
      exact h2

/-- an array of one's own turns no more -/
theorem le_freeze {o : Nat} {T : TypeId} {e : Ty} {m : Nat} {xs : List e.den} (h : s.hp o = some (.arr T e m false xs)) : Le C s ⟨s.fr, hpSet s.hp [(o, .arr T e m true xs)]⟩ := by
  rintro a w ⟨im, μ, hi⟩
  have hone := hpSet_one s.hp o (.arr T e m true xs)
  have hne : ∀ x, x ≠ o → hpSet s.hp [(o, .arr T e m true xs)] x = s.hp x := fun x hx => hpSet_one_ne s.hp _ hx
  rcases hi.obj o _ h with ⟨ad, hp', rfl⟩ | ⟨_, b, cap, cells, hp', hb, h1, h2, h3, h4⟩ | ⟨hz, _⟩
  · -- nothing in memory
    have hev : ∀ ob, s.hp o = some ob → ObEv ob (μ o) (.arr T e m true []) (μ o) := fun ob hob => by
      rw [h] at hob; cases hob; exact ⟨m, true, [], rfl, .inl ⟨rfl, rfl, .inl rfl⟩⟩
    have hw : WStep w w (μ o).blk := ⟨rfl, rfl, rfl, Nat.le_refl _, fun _ _ _ => rfl⟩
    have := hi.obj1 (dst := none) (av := .undef) (v := Go.undef) (pl' := μ o) hev hw (fun b hb => by rw [hp'] at hb; cases hb) (.inl ⟨ad, hp', rfl⟩) (fun d h => by cases h) trivial
    exact ⟨im, _, this⟩
  · have hblk : (μ o).blk = some b := by rw [hp']; rfl
    obtain ⟨s1, s2, s3⟩ := hi.sep o b hblk
    have ev : Ev w im μ s.hp w (fun k => im k ∨ k = b) (updMu μ o (.fz b cap)) (hpSet s.hp [(o, .arr T e m true xs)]) := by
      refine ⟨fun _ h => .inl h, fun _ _ => rfl, fun x ob hx => ?_⟩
      by_cases hxo : x = o
      · subst hxo
        rw [h] at hx; cases hx
        exact ⟨_, hone, m, true, xs, rfl, .inl ⟨rfl, rfl, .inr ⟨b, cap, hp', updMu_same _ _ _⟩⟩⟩
      · exact ⟨ob, by rw [hne x hxo]; exact hx, by rw [updMu_ne _ _ hxo]; exact ObEv.refl _ _⟩
    refine ⟨_, _, hi.step (dst := none) (av := .undef) (v := Go.undef) (a := a) ev rfl rfl rfl (Nat.le_refl _) (fun _ _ _ => rfl) ?_ ?_ ?_ ?_ ?_ ?_ (fun d h => by cases h) trivial⟩
    · rintro k (hk | rfl)
      · exact .inl hk
      · exact .inr (.inl ⟨o, hblk⟩)
    · rintro k (hk | rfl)
      · exact hi.imLt k hk
      · exact s2
    · intro x k hx
      by_cases hxo : x = o
      · subst hxo; rw [updMu_same] at hx; cases hx
      · rw [updMu_ne _ _ hxo] at hx
        obtain ⟨g1, g2, _⟩ := hi.sep x k hx
        refine ⟨?_, g2, .inl ⟨x, hx⟩⟩
        rintro (hk | rfl)
        · exact g1 hk
        · exact hxo (hi.inj _ _ _ hx hblk)
    · intro x y k hx hy
      by_cases hxo : x = o
      · subst hxo; rw [updMu_same] at hx; cases hx
      · by_cases hyo : y = o
        · subst hyo; rw [updMu_same] at hy; cases hy
        · rw [updMu_ne _ _ hxo] at hx; rw [updMu_ne _ _ hyo] at hy
          exact hi.inj _ _ k hx hy
    · intro x hx
      by_cases hxo : x = o
      · subst hxo; rw [hone] at hx; cases hx
      · rw [hne x hxo] at hx; rw [updMu_ne _ _ hxo]; exact hi.dom x hx
    · intro x ob hx
      by_cases hxo : x = o
      · subst hxo
        rw [hone] at hx; cases hx
        rw [updMu_same]
        refine .inr (.inr ⟨rfl, b, cap, _, rfl, .inr rfl, h1, h2, ?_, RepL.mono (RepD.mono ev.fim ev.fheap e) _ _ h4⟩)
        have := (cellsAt_block hb).sub 0 (xs.length * e.size)
        simpa using this
      · rw [hne x hxo] at hx
        rw [updMu_ne _ _ hxo]
        exact (hi.obj x ob hx).ev ev (fun _ _ => rfl)
  · cases hz

end
end Go.Vm
