/- Part QC of the abstract machine: calls, operations and regions go on as they are told. -/
import Derived.Test.YtnkhoojomojbpaaGreatDoorQ30
namespace Go.Vm
universe u
variable {R : Type}
abbrev Pn := TypeId × Int × LHp
def kk (k : E1 -> Option R) (kp : TypeId -> Int -> LHp -> Option R) : E1 ⊕ Pn -> Option R
 | .inl e => k e
 | .inr p => kp p.1 p.2.1 p.2.2
theorem via {X : Option E1} {A : Option R} {B : Option (E1 ⊕ Pn)} {k : E1 -> Option R} {kp : TypeId -> Int -> LHp -> Option R} (h1 : A = X.bind k) (h2 : B = X.bind fun e => some (.inl e)) : A = B.bind (kk k kp) := by
 subst h1 h2
 rw [Option.bind_assoc]; rfl
theorem ib {α β : Type} {x : Option α} {G : α -> Option R} {g : α -> Option β} {k : β -> Option R} (h : ∀ a, G a = (g a).bind k) : x.bind G = (x.bind g).bind k := by
 cases x with
 | none => rfl
 | some a => exact h a
theorem mH {g : FnE} (hg : ∀ {R : Type} (args : List AV) (hs : LHp) (k : aq -> LHp -> Option R), g.run args hs k = (g.run args hs fun a h => some (a, h)).bind fun p => k p.1 p.2) (args : List AV) (s : LSt) (k : E1 -> Option R) (kp : TypeId -> Int -> LHp -> Option R) :
  mA g args s k kp = (mA g args s (fun e => some (.inl e)) (fun t n w => some (.inr (t, n, w)))).bind (kk k kp) := by
 unfold mA
 simp only [Bool.cond_eq_ite]
 split
 ·split
  ·split
   ·rw [hg]
    conv => rhs; rw [hg]
    refine ib fun p => ?_
    repeat' (first | rfl | split)
   ·rfl
  ·rfl
 ·rfl
theorem tT {g : eu} (hg : ∀ {R : Type} (o : Nat) (args : List AV) (hs : LHp) (k : Bool -> LHp -> Option R), g.run o args hs k = (g.run o args hs fun a h => some (a, h)).bind fun p => k p.1 p.2) (q : Nat) (args : List AV) (s : LSt) (k : E1 -> Option R) :
  nj g q args s k = (nj g q args s some).bind k := by
 unfold nj
 simp only [Bool.cond_eq_ite]
 split
 ·split
  ·rfl
  ·split
   ·split
    ·split
     ·rw [hg]
      conv => rhs; rw [hg]
      refine ib fun p => ?_
      repeat' (first | rfl | split)
     ·rfl
    ·rfl
   ·rfl
 ·rfl
section
variable {E : Env} {s : LSt}
theorem Il (hE : E.Good) (dst : Option Tmp) (c : Call) (k : E1 -> Option R) (kp : TypeId -> Int -> LHp -> Option R) :
  tD E dst c s k kp = (tD E dst c s (fun e => some (.inl e)) (fun t n w => some (.inr (t, n, w)))).bind (kk k kp) := by
 unfold tD
 simp only [Bool.cond_eq_ite]
 split
 ·split
  ·split
   ·rename_i g hg
    exact mH (fun args hs k => (hE.calls _ (fy hg)).eq args hs k) _ _ _ _
   ·split
    ·rename_i g hg _
     have he := fun {R : Type} (args : List AV) (k : AV -> Option R) => (hE.exts _ (fy hg)).eq args k
     simp only at he
     rw [he]
     conv => rhs; rw [he]
     exact ib fun _ => rfl
    ·rfl
  ·split
   ·rename_i g hg
    exact via (tT (fun o args hs k => (hE.round _ hg).eq o args hs k) _ _ _ _) (tT (fun o args hs k => (hE.round _ hg).eq o args hs k) _ _ _ _)
   ·rfl
  ·rfl
 ·split
  ·exact via (AZ _ _ _) (AZ _ _ _)
  ·split
   ·exact via (rh _ _ _ _ _) (rh _ _ _ _ _)
   ·split
    ·exact via (pe _ _ _ _ _) (pe _ _ _ _ _)
    ·rfl
  ·exact via (A0 _ _ _) (A0 _ _ _)
  ·exact via (A1 _ _ _) (A1 _ _ _)
  ·exact via (A2 _ _ _) (A2 _ _ _)
  ·rfl
 ·rfl
theorem tU (hE : E.Good) (o : Oper) (k : E1 -> Option R) (kp : TypeId -> Int -> LHp -> Option R) :
  op1 E o s k kp = (op1 E o s (fun e => some (.inl e)) (fun t n w => some (.inr (t, n, w)))).bind (kk k kp) := by
 unfold op1
 simp only [Bool.cond_eq_ite]
 repeat' (first
  | rfl
  | exact via (wJ _ _ _ _) (wJ _ _ _ _)
  | exact via (tM _ _) (tM _ _)
  | exact via (AU _ _) (AU _ _)
  | exact via (tS _ _ _) (tS _ _ _)
  | exact via (A3 _ _ _ _) (A3 _ _ _ _)
  | exact via (wL _ _ _) (wL _ _ _)
  | exact via (tN _ _ _ _) (tN _ _ _ _)
  | exact via (AX _ _) (AX _ _)
  | exact via (AT _ _ _ _ _) (AT _ _ _ _ _)
  | exact via (Fq _ _ _) (Fq _ _ _)
  | exact via (wK _ _ _ _) (wK _ _ _ _)
  | exact via (tO _ _ _) (tO _ _ _)
  | exact via (wN _ _ _ _) (wN _ _ _ _)
  | exact via (wO _ _ _ _) (wO _ _ _ _)
  | exact via (tP _ _ _ _ _ _ _ _) (tP _ _ _ _ _ _ _ _)
  | exact via (mF _ _ _ _) (mF _ _ _ _)
  | exact via (tQ _ _ _ _) (tQ _ _ _ _)
  | exact via (mG _ _ _ _) (mG _ _ _ _)
  | exact via (tR _ _ _ _) (tR _ _ _ _)
  | exact via (re _ _ _ _) (re _ _ _ _)
  | exact via (pd _ _ _) (pd _ _ _)
  | exact Il hE _ _ _ _
  | split)
theorem wP {α : Type} {n : Nat} {ops : Array Oper} {o : Oper} {on off : LSt -> Option R} {on' off' : LSt -> Option α} {K : α -> Option R} (h1 : ∀ s, on s = (on' s).bind K) (h2 : ∀ s, off s = (off' s).bind K) :
  oq n ops o s on off = (oq n ops o s on' off').bind K := by
 unfold oq
 simp only [Bool.cond_eq_ite]
 repeat' (first | rfl | exact h1 _ | exact h2 _ | split)
def kr (k : LSt -> Option R) (kp : TypeId -> Int -> LSt -> Option R) : LSt ⊕ (TypeId × Int × LSt) -> Option R
 | .inl e => k e
 | .inr p => kp p.1 p.2.1 p.2.2
theorem r4 (hE : E.Good) {n : Nat} {ops : Array Oper} : ∀ (l : List Oper) (s : LSt) (k : LSt -> Option R) (kp : TypeId -> Int -> LSt -> Option R),
  AJ E n ops l s k kp = (AJ E n ops l s (fun s => some (.inl s)) (fun t m s => some (.inr (t, m, s)))).bind (kr k kp)
 | [], _, _, _ => rfl
 | o :: l, s, k, kp => by
  simp only [AJ]
  refine wP (fun s1 => ?_) (fun s1 => r4 hE l _ k kp)
  rw [tU hE]
  conv => rhs; rw [tU hE]
  refine ib fun p => ?_
  cases p with
  | inl e => exact r4 hE l _ k kp
  | inr p => rfl
theorem r5 (hE : E.Good) (o : Oper) (k : E1 -> Option R) (kp : TypeId -> Int -> LHp -> Option R) :
  DW E o s k kp = (DW E o s (fun e => some (.inl e)) (fun t n w => some (.inr (t, n, w)))).bind (kk k kp) := by
 unfold DW
 split
 ·split
  ·split
   ·rename_i g hg
    rw [mH (fun args hs k => (hE.calls _ (fy hg)).eq args hs k)]
    conv => rhs; rw [mH (fun args hs k => (hE.calls _ (fy hg)).eq args hs k)]
    rw [Option.bind_assoc]
    congr 1
    funext p
    cases p <;> rfl
   ·exact tU hE o k kp
  ·exact tU hE o k kp
 ·exact tU hE o k kp
theorem yi (hE : E.Good) {α : Type} {ops : Array Oper} {cl : List Nat} {m q : Nat} {K : α -> Option R} {k : List Eff -> Option R} {k' : List Eff -> Option α} (hk : ∀ x, k x = (k' x).bind K) : ∀ (l : List Oper) (i : Nat) (s : LSt) (dy : List Nat) (ks : List Eff),
  AK E ops cl m q l i s dy ks k = (AK E ops cl m q l i s dy ks k').bind K
 | [], _, _, _, ks => hk ks
 | o :: l, i, s, dy, ks => by
  simp only [AK]
  cases (cl.getD i 0).testBit m with
  | true => exact yi hE hk l _ _ _ _
  | false =>
   simp only [ax]
   cases o.guard.isNone && (o.looksAt ops).all (fun x => !dy.any (Nat.beq x)) with
   | false => rfl
   | true =>
    simp only [ak]
    rw [r5 hE]
    conv => rhs; rw [r5 hE]
    refine ib fun p => ?_
    cases p with
    | inl e =>
     simp only [kk]
     cases e.rd.all (fun x => !Nat.beq x q) && e.wr.all (fun p => !Nat.beq p.1 q) with
     | false => rfl
     | true => exact yi hE hk l _ _ _ _
    | inr p => rfl
theorem Qv (hE : E.Good) {α : Type} {ops : Array Oper} {o : Oper} {l : List Oper} {s : LSt} {ks : List Eff} {wr : LHp} {K : α -> Option R} {k : LSt -> Option R} {k' : LSt -> Option α} (hk : ∀ x, k x = (k' x).bind K) :
  Ib E ops o l s ks wr k = (Ib E ops o l s ks wr k').bind K := by
 unfold Ib
 simp only
 cases o.guard.isNone && (vA (DX ((wr ++ s.hp).map (·.1)) [])).good with
 | false => rfl
 | true =>
  simp only [ak]
  split
  ·refine yi hE (fun ks2 => ?_) _ _ _ _ _
   simp only [Bool.cond_eq_ite]
   split
   ·exact hk _
   ·rfl
  ·rfl
theorem r6 (hE : E.Good) {n : Nat} {ops : Array Oper} : ∀ (l : List Oper) (s : LSt) (ks : List Eff) (k : LSt -> Option R) (kp : TypeId -> Int -> LSt -> Option R),
  vB E n ops l s ks k kp = (vB E n ops l s ks (fun s => some (.inl s)) (fun t m s => some (.inr (t, m, s)))).bind (kr k kp)
 | [], s, ks, k, kp => by
  simp only [vB, Bool.cond_eq_ite]
  split <;> rfl
 | o :: l, s, ks, k, kp => by
  simp only [vB]
  refine wP (fun s1 => ?_) (fun s1 => r6 hE l _ _ k kp)
  rw [r5 hE]
  conv => rhs; rw [r5 hE]
  refine ib fun p => ?_
  cases p with
  | inl e => exact r6 hE l _ _ k kp
  | inr p =>
   cases h : Ql ops o ks with
   | true => simp only [kk, h, ak]; rfl
   | false =>
    simp only [kk, h, ax]
    exact Qv hE (fun _ => rfl)
end
end Go.Vm
