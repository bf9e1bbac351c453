/- Part M of the abstract machine: THE EXECUTOR: a Lean function that runs the model's code over abstract values. -/
import Derived.Test.YtnkhoojomojbpaaGreatDoorK13
namespace Go.Vm
inductive Tr where
 | e
 | n (l : Tr) (v : AV) (r : Tr)
def Tr.get : Tr -> Nat -> AV
 | .e, _ => .undef
 | .n l v r, k => bif Nat.beq k 0 then v else bif Nat.beq (k % 2) 1 then l.get (k / 2) else r.get (k / 2 - 1)
def Tr.set : Tr -> Nat -> AV -> Tr
 | .e, _, _ => .e
 | .n l v r, k, a => bif Nat.beq k 0 then .n l a r else bif Nat.beq (k % 2) 1 then .n (l.set (k / 2) a) v r else .n l v (r.set (k / 2 - 1) a)
def Tr.has : Tr -> Nat -> Bool
 | .e, _ => false
 | .n l _ r, k => bif Nat.beq k 0 then true else bif Nat.beq (k % 2) 1 then l.has (k / 2) else r.has (k / 2 - 1)
def Tr.full : Nat -> Tr
 | 0 => .e
 | d + 1 => .n (Tr.full d) .undef (Tr.full d)
def Tr.clr : Tr -> Tr
 | .e => .e
 | .n l _ r => .n l.clr .undef r.clr
theorem Tr.get_clr : ∀ (t : Tr) (k : Nat), t.clr.get k = .undef
 | .e, _ => rfl
 | .n l v r, k => by
  simp [Tr.clr, Tr.get, Nat.beq, Tr.get_clr]
theorem Tr.has_clr : ∀ (t : Tr) (k : Nat), t.clr.has k = t.has k
 | .e, _ => rfl
 | .n l v r, k => by
  simp [Tr.clr, Tr.has, Nat.beq, Tr.has_clr]
theorem Tr.has_set : ∀ (t : Tr) (k : Nat) (a : AV) (j : Nat), (t.set k a).has j = t.has j
 | .e, _, _, _ => rfl
 | .n l v r, k, a, j => by
  simp only [Tr.set]
  cases Nat.beq k 0 with
  | true => rfl
  | false =>
   cases Nat.beq (k % 2) 1 with
   | true => simp only [ax, ai, Tr.has, Tr.has_set l]
   | false => simp only [ax, Tr.has, Tr.has_set r]
theorem Tr.get_set : ∀ (t : Tr) (k : Nat) (a : AV) (j : Nat), t.has k = true -> (t.set k a).get j = bif Nat.beq j k then a else t.get j
 | .e, _, _, _, h => by cases h
 | .n l v r, k, a, j, h => by
  simp only [Tr.has] at h
  simp only [Tr.set]
  cases hk : Nat.beq k 0 with
  | true =>
   grind [bj, Tr.get, Nat.beq]
  | false =>
   rw [hk] at h
   have hk0 := iF hk
   cases hm : Nat.beq (k % 2) 1 with
   | true =>
    rw [hm] at h
    have C1 := bj hm
    simp only [ax, ai, Tr.get]
    cases hj : Nat.beq j 0 with
    | true =>
     grind [bj]
    | false =>
     have hj0 := iF hj
     cases hmj : Nat.beq (j % 2) 1 with
     | true =>
      have hmj1 := bj hmj
      simp only [ax, ai]
      rw [Tr.get_set l _ a _ h]
      congr 1
      cases hb : Nat.beq j k with
      | true => rw [bj hb]; exact Nat.beq_refl _
      | false =>
       have := iF hb
       grind [bj]
     | false =>
      have hmj1 := iF hmj
      simp only [ax]
      have : Nat.beq j k = false := by rw [← Bool.not_eq_true]; intro hb; have := bj hb; subst this; exact hmj1 C1
      simp [this]
   | false =>
    rw [hm] at h
    have C1 := iF hm
    simp only [ax, Tr.get]
    cases hj : Nat.beq j 0 with
    | true =>
     grind [bj]
    | false =>
     have hj0 := iF hj
     cases hmj : Nat.beq (j % 2) 1 with
     | true =>
      grind [bj]
     | false =>
      have hmj1 := iF hmj
      simp only [ax]
      rw [Tr.get_set r _ a _ h]
      congr 1
      cases hb : Nat.beq j k with
      | true => rw [bj hb]; exact Nat.beq_refl _
      | false =>
       have := iF hb
       rw [← Bool.not_eq_true]; intro ll; have := bj ll
       have h1 : j % 2 = 0 := by omega
       have h2 : k % 2 = 0 := by omega
       omega
theorem Tr.get_full : ∀ (d k : Nat), (Tr.full d).get k = .undef
 | 0, _ => rfl
 | d + 1, k => by
  simp [Tr.full, Tr.get, Nat.beq, Tr.get_full]
theorem Tr.has_full : ∀ (d k : Nat), k + 1 < 2 ^ d -> (Tr.full d).has k = true
 | 0, k, h => by simp at h
 | d + 1, k, h => by
  simp only [Tr.full, Tr.has]
  rw [Nat.pow_succ] at h
  cases hk : Nat.beq k 0 with
  | true => rfl
  | false =>
   have := iF hk
   cases hm : Nat.beq (k % 2) 1 with
   | true =>
    have := bj hm
    simp only [ax, ai]
    exact Tr.has_full d _ (by omega)
   | false =>
    have := iF hm
    simp only [ax]
    exact Tr.has_full d _ (by omega)
def aw (d : Nat) : List (Nat × AV) -> Tr
 | [] => Tr.full d
 | (x, a) :: l => (aw d l).set x a
theorem zY (d : Nat) : ∀ (l : List (Nat × AV)) (k : Nat), (aw d l).has k = (Tr.full d).has k
 | [], _ => rfl
 | (x, a) :: l, k => by simp only [aw, Tr.has_set, zY d l]
theorem lN (d : Nat) : ∀ (l : List (Nat × AV)) (k : Nat), (aw d l).get k = .undef \/ ∃ a, (k, a) ∈ l /\ (aw d l).get k = a
 | [], k => .inl (Tr.get_full d k)
 | (x, a) :: l, k => by
  simp only [aw]
  cases hx : (aw d l).has x with
  | true =>
   rw [Tr.get_set _ _ _ _ hx]
   cases hb : Nat.beq k x with
   | true => exact .inr ⟨a, by rw [bj hb]; simp, rfl⟩
   | false =>
    rcases lN d l k with h | ⟨b, h1, h2⟩
    all_goals grind
  | false =>
   have key : ∀ (t : Tr) (k j : Nat), t.has k = false -> (t.set k a).get j = t.get j := by
    intro t
    induction t with
    | e => intro k j _; rfl
    | n l v r ih1 ih2 =>
     grind [Tr.has, Tr.set, Nat.beq, Tr.get]
   rw [key _ _ _ hx]
   rcases lN d l k with h | ⟨b, h1, h2⟩
   all_goals grind
abbrev LHp := List (Nat × aj)
def aA : LHp -> Nat -> Option aj
 | [], _ => none
 | (a, ob) :: r, o => bif Nat.beq a o then some ob else aA r o
theorem pF : ∀ (l : LHp) (o : Nat), aA l o = (match l.find? (fun p => Nat.beq p.1 o) with | some p => some p.2 | none => none)
 | [], _ => rfl
 | (a, ob) :: r, o => by
  simp only [aA, List.find?]
  cases Nat.beq a o with
  | true => rfl
  | false => exact pF r o
theorem a8 (wr : LHp) (l : LHp) : aA (wr ++ l) = aG (aA l) wr := by
 funext o
 induction wr with
 | nil => simp [aG, List.find?]
 | cons p r ih =>
  obtain ⟨a, ob⟩ := p
  simp only [List.cons_append, aA, aG, List.find?] at ih ⊢
  grind
structure LSt where
 fr : Tr
 hp : LHp
 nx : Nat
def LSt.toA (s : LSt) : ASt := ⟨s.fr.get, aA s.hp⟩
structure E1 where
 av : AV
 rd : List Nat
 wr : LHp
 nx : Nat
def LSt.app (s : LSt) (dst : Option Nat) (e : E1) : LSt :=
 ⟨match dst with | some d => s.fr.set d e.av | none => s.fr, e.wr ++ s.hp, e.nx⟩
def AV.asD (a : AV) (t : Ty) : Option t.den :=
 match a with
 | .d t' x => if h : t' = t then some (h ▸ x) else none
 | _ => none
theorem AV.asD_some {a : AV} {t : Ty} {x : t.den} (h : a.asD t = some x) : a = .d t x := by
 unfold AV.asD at h
 grind
def toD (hp : LHp) : AV -> (t : Ty) -> Option t.den
 | .d t' x, t => if h : t' = t then some (h ▸ x) else none
 | .nils, .slice _ => some []
 | .emp, .slice _ => some []
 | .os o n, .slice e =>
  match aA hp o with
  | some (.arr _ e' m z xs) => bif Nat.beq n m && z then (if h : e' = e then some (h ▸ xs) else none) else none
  | _ => none
 | .pr a b, .pair ta tb =>
  match toD hp a ta with
  | some x => (match toD hp b tb with | some y => some (x, y) | none => none)
  | none => none
 | _, _ => none
theorem jr {hp : LHp} : ∀ {a : AV} {t : Ty} {x : t.den}, toD hp a t = some x -> ir (aA hp) a t x
 | .d t' x', t, x, h => by
  simp only [toD] at h
  split at h
  ·rename_i ht; subst ht; cases h; exact .d
  ·cases h
 | .pr a b, .pair ta tb, x, h => by
  simp only [toD] at h
  cases h1 : toD hp a ta with
  | none => rw [h1] at h; cases h
  | some x1 =>
   rw [h1] at h
   simp only at h
   cases h2 : toD hp b tb with
   | none => rw [h2] at h; cases h
   | some y1 => rw [h2] at h; cases h; exact .pr (jr h1) (jr h2)
 | .nils, .slice _, x, h => by simp only [toD] at h; cases h; exact .nils
 | .emp, .slice _, x, h => by simp only [toD] at h; cases h; exact .emp
 | .os o n, .slice e, x, h => by
  simp only [toD] at h
  split at h
  ·rename_i T e' m z xs ho
   cases hb : Nat.beq n m && z with
   | false => rw [hb] at h; cases h
   | true =>
    rw [hb] at h
    simp only [ai] at h
    split at h
    ·rename_i he
     subst he
     simp only [ba] at hb
     have := bj hb.1
     subst this
     cases hb.2
     cases h
     exact .os ho
    ·cases h
  ·cases h
 | .pr _ _, .int _, _, h => by simp only [toD] at h; cases h
 | .pr _ _, .bool, _, h => by simp only [toD] at h; cases h
 | .pr _ _, .str, _, h => by simp only [toD] at h; cases h
 | .pr _ _, .flt _, _, h => by simp only [toD] at h; cases h
 | .pr _ _, .slice _, _, h => by simp only [toD] at h; cases h
 | .pr _ _, .unit, _, h => by simp only [toD] at h; cases h
 | .pr _ _, .arr _ _, _, h => by simp only [toD] at h; cases h
 | .nils, .int _, _, h => by simp only [toD] at h; cases h
 | .nils, .bool, _, h => by simp only [toD] at h; cases h
 | .nils, .str, _, h => by simp only [toD] at h; cases h
 | .nils, .flt _, _, h => by simp only [toD] at h; cases h
 | .nils, .pair _ _, _, h => by simp only [toD] at h; cases h
 | .nils, .unit, _, h => by simp only [toD] at h; cases h
 | .nils, .arr _ _, _, h => by simp only [toD] at h; cases h
 | .emp, .int _, _, h => by simp only [toD] at h; cases h
 | .emp, .bool, _, h => by simp only [toD] at h; cases h
 | .emp, .str, _, h => by simp only [toD] at h; cases h
 | .emp, .flt _, _, h => by simp only [toD] at h; cases h
 | .emp, .pair _ _, _, h => by simp only [toD] at h; cases h
 | .emp, .unit, _, h => by simp only [toD] at h; cases h
 | .emp, .arr _ _, _, h => by simp only [toD] at h; cases h
 | .os _ _, .int _, _, h => by simp only [toD] at h; cases h
 | .os _ _, .bool, _, h => by simp only [toD] at h; cases h
 | .os _ _, .str, _, h => by simp only [toD] at h; cases h
 | .os _ _, .flt _, _, h => by simp only [toD] at h; cases h
 | .os _ _, .pair _ _, _, h => by simp only [toD] at h; cases h
 | .os _ _, .unit, _, h => by simp only [toD] at h; cases h
 | .os _ _, .arr _ _, _, h => by simp only [toD] at h; cases h
 | .undef, _, _, h => by simp only [toD] at h; cases h
 | .ip _ _, _, _, h => by simp only [toD] at h; cases h
 | .op _ _ _, _, _, h => by simp only [toD] at h; cases h
 | .oe _ _ _, _, _, h => by simp only [toD] at h; cases h
 | .ow _ _ _ _, _, _, h => by simp only [toD] at h; cases h
 | .tup _, _, _, h => by simp only [toD] at h; cases h
 | .fn _ _ _, _, _, h => by simp only [toD] at h; cases h
 | .nilfn, _, _, h => by simp only [toD] at h; cases h
 | .iface _ _, _, _, h => by simp only [toD] at h; cases h
 | .nilif, _, _, h => by simp only [toD] at h; cases h
 | .nilp, _, _, h => by simp only [toD] at h; cases h
 | .ref _, _, _, h => by simp only [toD] at h; cases h
def Qk (hp : LHp) (a : AV) (e : Ty) : Option (List e.den) :=
 match a with
 | .d (.slice e') xs => if h : e' = e then some (h ▸ xs) else none
 | .nils => some []
 | .emp => some []
 | .os o n =>
  match aA hp o with
  | some (.arr _ e' m _ xs) => bif Nat.beq n m then (if h : e' = e then some (h ▸ xs) else none) else none
  | _ => none
 | _ => none
theorem vx {hp : LHp} {a : AV} {e : Ty} {xs : List e.den} (h : Qk hp a e = some xs) : Src (aA hp) a e xs := by
 unfold Qk at h
 split at h
 ·split at h
  ·rename_i he; subst he; cases h; exact .d
  ·cases h
 ·cases h; exact .nils
 ·cases h; exact .emp
 ·split at h
  ·rename_i o n _ T e' m z ys ho
   cases hb : Nat.beq n m with
   | false => rw [hb] at h; cases h
   | true =>
    rw [hb] at h
    simp only [ai] at h
    split at h
    ·rename_i he
     subst he
     have := bj hb
     subst this
     cases h
     exact .os ho
    ·cases h
  ·cases h
 ·cases h
def HJ (hp : LHp) (a : AV) (dflt : Option Ty) : Option ((e : Ty) × List e.den) :=
 match a with
 | .d (.slice e) xs => some ⟨e, xs⟩
 | .nils => (match dflt with | some e => some ⟨e, []⟩ | none => none)
 | .emp => (match dflt with | some e => some ⟨e, []⟩ | none => none)
 | .os o n =>
  match aA hp o with
  | some (.arr _ e m _ xs) => bif Nat.beq n m then some ⟨e, xs⟩ else none
  | _ => none
 | _ => none
theorem mq {hp : LHp} {a : AV} {dflt : Option Ty} {e : Ty} {xs : List e.den} (h : HJ hp a dflt = some ⟨e, xs⟩) : Src (aA hp) a e xs := by
 unfold HJ at h
 split at h
 ·cases h; exact .d
 ·split at h
  ·cases h; exact .nils
  ·cases h
 ·split at h
  ·cases h; exact .emp
  ·cases h
 ·split at h
  ·rename_i o n _ T e' m z ys ho
   cases hb : Nat.beq n m with
   | false => rw [hb] at h; cases h
   | true =>
    rw [hb] at h
    cases h
    have := bj hb
    subst this
    exact .os ho
  ·cases h
 ·cases h
variable {R : Type}
def fC : (t : Ty) -> t.den -> List Nat -> (Nat -> AV -> Option R) -> Option R
 | .pair a _, x, 0 :: p, k => fC a x.1 p k
 | .pair a b, x, (i + 1) :: p, k => fC b x.2 (i :: p) (fun off u => k (a.size + off) u)
 | .arr _ e, xs, i :: p, k => (xs[i]?).bind fun y => fC e y p (fun off u => k (i * e.size + off) u)
 | t, x, [], k => k 0 (.d t x)
 | _, _, _ :: _, _ => none
def cU : AV -> List Nat -> (Nat -> AV -> Option R) -> Option R
 | .d t x, p, k => fC t x p k
 | .pr a _, 0 :: p, k => cU a p k
 | .pr a b, (i + 1) :: p, k => cU b (i :: p) (fun off u => k (a.asize + off) u)
 | a, [], k => k 0 a
 | _, _ :: _, _ => none
theorem ja : ∀ (t : Ty) (x : t.den) (p : List Nat) (k : Nat -> AV -> Option R) (r : R), fC t x p k = some r -> ∃ off u, Sub (.d t x) p off u /\ k off u = some r
 | .pair a b, x, [], k, r, h => ⟨0, _, .here, by simpa [fC] using h⟩
 | .pair a b, x, 0 :: p, k, r, h => by
  simp only [fC] at h
  obtain ⟨off, u, h1, h2⟩ := ja a x.1 p k r h
  exact ⟨off, u, .dH h1, h2⟩
 | .pair a b, x, (i + 1) :: p, k, r, h => by
  simp only [fC] at h
  obtain ⟨off, u, h1, h2⟩ := ja b x.2 (i :: p) _ r h
  exact ⟨_, u, .dT h1, h2⟩
 | .arr n e, xs, [], k, r, h => ⟨0, _, .here, by simpa [fC] using h⟩
 | .arr n e, xs, i :: p, k, r, h => by
  simp only [fC] at h
  obtain ⟨y, hy, h⟩ := aS h
  obtain ⟨off, u, h1, h2⟩ := ja e y p _ r h
  exact ⟨_, u, .arr hy h1, h2⟩
 | .int _, x, [], k, r, h => ⟨0, _, .here, by simpa [fC] using h⟩
 | .bool, x, [], k, r, h => ⟨0, _, .here, by simpa [fC] using h⟩
 | .str, x, [], k, r, h => ⟨0, _, .here, by simpa [fC] using h⟩
 | .flt _, x, [], k, r, h => ⟨0, _, .here, by simpa [fC] using h⟩
 | .slice _, x, [], k, r, h => ⟨0, _, .here, by simpa [fC] using h⟩
 | .unit, x, [], k, r, h => ⟨0, _, .here, by simpa [fC] using h⟩
 | .int _, x, _ :: _, k, r, h => by simp [fC] at h
 | .bool, x, _ :: _, k, r, h => by simp [fC] at h
 | .str, x, _ :: _, k, r, h => by simp [fC] at h
 | .flt _, x, _ :: _, k, r, h => by simp [fC] at h
 | .slice _, x, _ :: _, k, r, h => by simp [fC] at h
 | .unit, x, _ :: _, k, r, h => by simp [fC] at h
theorem ki : ∀ (a : AV) (p : List Nat) (k : Nat -> AV -> Option R) (r : R), cU a p k = some r -> ∃ off u, Sub a p off u /\ k off u = some r
 | .d t x, p, k, r, h => by simp only [cU] at h; exact ja t x p k r h
 | .pr a b, [], k, r, h => ⟨0, _, .here, by simpa [cU] using h⟩
 | .pr a b, 0 :: p, k, r, h => by
  simp only [cU] at h
  obtain ⟨off, u, h1, h2⟩ := ki a p k r h
  exact ⟨off, u, .prH h1, h2⟩
 | .pr a b, (i + 1) :: p, k, r, h => by
  simp only [cU] at h
  obtain ⟨off, u, h1, h2⟩ := ki b (i :: p) _ r h
  exact ⟨_, u, .prT h1, h2⟩
 | .undef, [], k, r, h => ⟨0, _, .here, by simpa [cU] using h⟩
 | .ip _ _, [], k, r, h => ⟨0, _, .here, by simpa [cU] using h⟩
 | .op _ _ _, [], k, r, h => ⟨0, _, .here, by simpa [cU] using h⟩
 | .os _ _, [], k, r, h => ⟨0, _, .here, by simpa [cU] using h⟩
 | .oe _ _ _, [], k, r, h => ⟨0, _, .here, by simpa [cU] using h⟩
 | .ow _ _ _ _, [], k, r, h => ⟨0, _, .here, by simpa [cU] using h⟩
 | .nils, [], k, r, h => ⟨0, _, .here, by simpa [cU] using h⟩
 | .emp, [], k, r, h => ⟨0, _, .here, by simpa [cU] using h⟩
 | .tup _, [], k, r, h => ⟨0, _, .here, by simpa [cU] using h⟩
 | .fn _ _ _, [], k, r, h => ⟨0, _, .here, by simpa [cU] using h⟩
 | .nilfn, [], k, r, h => ⟨0, _, .here, by simpa [cU] using h⟩
 | .iface _ _, [], k, r, h => ⟨0, _, .here, by simpa [cU] using h⟩
 | .nilif, [], k, r, h => ⟨0, _, .here, by simpa [cU] using h⟩
 | .nilp, [], k, r, h => ⟨0, _, .here, by simpa [cU] using h⟩
 | .ref _, [], k, r, h => ⟨0, _, .here, by simpa [cU] using h⟩
 | .undef, _ :: _, k, r, h => by simp [cU] at h
 | .ip _ _, _ :: _, k, r, h => by simp [cU] at h
 | .op _ _ _, _ :: _, k, r, h => by simp [cU] at h
 | .os _ _, _ :: _, k, r, h => by simp [cU] at h
 | .oe _ _ _, _ :: _, k, r, h => by simp [cU] at h
 | .ow _ _ _ _, _ :: _, k, r, h => by simp [cU] at h
 | .nils, _ :: _, k, r, h => by simp [cU] at h
 | .emp, _ :: _, k, r, h => by simp [cU] at h
 | .tup _, _ :: _, k, r, h => by simp [cU] at h
 | .fn _ _ _, _ :: _, k, r, h => by simp [cU] at h
 | .nilfn, _ :: _, k, r, h => by simp [cU] at h
 | .iface _ _, _ :: _, k, r, h => by simp [cU] at h
 | .nilif, _ :: _, k, r, h => by simp [cU] at h
 | .nilp, _ :: _, k, r, h => by simp [cU] at h
 | .ref _, _ :: _, k, r, h => by simp [cU] at h
def mkL (a b : Ty) (a' : AV) (y : b.den) : AV := match a'.asD a with | some x => .d (.pair a b) (x, y) | none => .pr a' (.d b y)
def mkR (a b : Ty) (x : a.den) (b' : AV) : AV := match b'.asD b with | some y => .d (.pair a b) (x, y) | none => .pr (.d a x) b'
def j8 : (t : Ty) -> t.den -> List Nat -> AV -> (Nat -> AV -> Option R) -> Option R
 | .pair a b, x, 0 :: p, u, k => j8 a x.1 p u (fun off a' => k off (mkL a b a' x.2))
 | .pair a b, x, (i + 1) :: p, u, k => j8 b x.2 (i :: p) u (fun off b' => k (a.size + off) (mkR a b x.1 b'))
 | .arr n e, xs, i :: p, u, k => (xs[i]?).bind fun y => j8 e y p u (fun off e' => match e'.asD e with | some y' => k (i * e.size + off) (.d (.arr n e) (xs.set i y')) | none => none)
 | t, _, [], u, k => bif Nat.beq u.asize t.size then k 0 u else none
 | _, _, _ :: _, _, _ => none
def fg : AV -> List Nat -> AV -> (Nat -> AV -> Option R) -> Option R
 | .d t x, p, u, k => j8 t x p u k
 | .pr a b, 0 :: p, u, k => fg a p u (fun off a' => k off (.pr a' b))
 | .pr a b, (i + 1) :: p, u, k => fg b (i :: p) u (fun off b' => k (a.asize + off) (.pr a b'))
 | a, [], u, k => bif Nat.beq u.asize a.asize then k 0 u else none
 | _, _ :: _, _, _ => none
theorem zZ (t : Ty) (x : t.den) (u : AV) (k : Nat -> AV -> Option R) (r : R) (h : j8 t x [] u k = some r) : ∃ off v', jl (.d t x) [] off u v' /\ k off v' = some r := by
 have h' : (bif Nat.beq u.asize t.size then k 0 u else none) = some r := by
  grind [j8]
 cases hb : Nat.beq u.asize t.size with
 | false => rw [hb] at h'; cases h'
 | true => rw [hb] at h'; exact ⟨0, u, .here (by simpa [AV.asize] using bj hb), h'⟩
theorem mr : ∀ (t : Ty) (x : t.den) (p : List Nat) (u : AV) (k : Nat -> AV -> Option R) (r : R), j8 t x p u k = some r -> ∃ off v', jl (.d t x) p off u v' /\ k off v' = some r
 | t, x, [], u, k, r, h => zZ t x u k r h
 | .pair a b, x, 0 :: p, u, k, r, h => by
  simp only [j8] at h
  obtain ⟨off, v', h1, h2⟩ := mr a x.1 p u _ r h
  unfold mkL at h2
  cases hd : v'.asD a with
  | none => rw [hd] at h2; exact ⟨off, _, .dHp h1, h2⟩
  | some y => rw [hd] at h2; rw [AV.asD_some hd] at h1; exact ⟨off, _, .dH h1, h2⟩
 | .pair a b, x, (i + 1) :: p, u, k, r, h => by
  simp only [j8] at h
  obtain ⟨off, v', h1, h2⟩ := mr b x.2 (i :: p) u _ r h
  unfold mkR at h2
  cases hd : v'.asD b with
  | none => rw [hd] at h2; exact ⟨_, _, .dTp h1, h2⟩
  | some y => rw [hd] at h2; rw [AV.asD_some hd] at h1; exact ⟨_, _, .dT h1, h2⟩
 | .arr n e, xs, i :: p, u, k, r, h => by
  simp only [j8] at h
  obtain ⟨y, hy, h⟩ := aS h
  obtain ⟨off, v', h1, h2⟩ := mr e y p u _ r h
  cases hd : v'.asD e with
  | none => simp only [hd] at h2; cases h2
  | some y' => simp only [hd] at h2; rw [AV.asD_some hd] at h1; exact ⟨_, _, .arr hy h1, h2⟩
 | .int _, x, _ :: _, u, k, r, h => by simp [j8] at h
 | .bool, x, _ :: _, u, k, r, h => by simp [j8] at h
 | .str, x, _ :: _, u, k, r, h => by simp [j8] at h
 | .flt _, x, _ :: _, u, k, r, h => by simp [j8] at h
 | .slice _, x, _ :: _, u, k, r, h => by simp [j8] at h
 | .unit, x, _ :: _, u, k, r, h => by simp [j8] at h
theorem Kq (a u : AV) (k : Nat -> AV -> Option R) (r : R) (h : fg a [] u k = some r) : ∃ off v', jl a [] off u v' /\ k off v' = some r := by
 cases a
 case d t x => simp only [fg] at h; exact zZ t x u k r h
 all_goals
  simp only [fg] at h
  revert h
  cases hb : Nat.beq u.asize _ with
  | false => intro h; cases h
  | true => intro h; exact ⟨0, u, .here (bj hb), h⟩
theorem mu : ∀ (a : AV) (p : List Nat) (u : AV) (k : Nat -> AV -> Option R) (r : R), fg a p u k = some r -> ∃ off v', jl a p off u v' /\ k off v' = some r
 | a, [], u, k, r, h => Kq a u k r h
 | .d t x, i :: p, u, k, r, h => by simp only [fg] at h; exact mr t x _ u k r h
 | .pr a b, 0 :: p, u, k, r, h => by
  simp only [fg] at h
  obtain ⟨off, v', h1, h2⟩ := mu a p u _ r h
  exact ⟨off, _, .prH h1, h2⟩
 | .pr a b, (i + 1) :: p, u, k, r, h => by
  simp only [fg] at h
  obtain ⟨off, v', h1, h2⟩ := mu b (i :: p) u _ r h
  exact ⟨_, _, .prT h1, h2⟩
 | .undef, _ :: _, u, k, r, h => by simp [fg] at h
 | .ip _ _, _ :: _, u, k, r, h => by simp [fg] at h
 | .op _ _ _, _ :: _, u, k, r, h => by simp [fg] at h
 | .os _ _, _ :: _, u, k, r, h => by simp [fg] at h
 | .oe _ _ _, _ :: _, u, k, r, h => by simp [fg] at h
 | .ow _ _ _ _, _ :: _, u, k, r, h => by simp [fg] at h
 | .nils, _ :: _, u, k, r, h => by simp [fg] at h
 | .emp, _ :: _, u, k, r, h => by simp [fg] at h
 | .tup _, _ :: _, u, k, r, h => by simp [fg] at h
 | .fn _ _ _, _ :: _, u, k, r, h => by simp [fg] at h
 | .nilfn, _ :: _, u, k, r, h => by simp [fg] at h
 | .iface _ _, _ :: _, u, k, r, h => by simp [fg] at h
 | .nilif, _ :: _, u, k, r, h => by simp [fg] at h
 | .nilp, _ :: _, u, k, r, h => by simp [fg] at h
 | .ref _, _ :: _, u, k, r, h => by simp [fg] at h
end Go.Vm
