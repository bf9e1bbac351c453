/- Part QC of the abstract machine: calls, operations and regions go on as they are told. -/
import Derived.Test.YtnkhoojomojbpaaGreatDoorK30
namespace Go.Vm
universe u
variable {R : Type}
abbrev Pn := TypeId × Int × LHp
def kk (k : E1 -> Option R) (kp : TypeId -> Int -> LHp -> Option R) : E1 ⊕ Pn -> Option R
 | .inl e => k e
 | .inr p => kp p.1 p.2.1 p.2.2
theorem via {X : Option E1} {A : Option R} {B : Option (E1 ⊕ Pn)} {k : E1 -> Option R} {kp : TypeId -> Int -> LHp -> Option R} (h1 : A = X.bind k) (h2 : B = X.bind fun e => some (.inl e)) : A = B.bind (kk k kp) := by
 subst h1 h2
 rw [Option.bind_assoc]; rfl
theorem gK {α β : Type} {x : Option α} {G : α -> Option R} {g : α -> Option β} {k : β -> Option R} (h : ∀ a, G a = (g a).bind k) : x.bind G = (x.bind g).bind k := by
 cases x with
 | none => rfl
 | some a => exact h a
theorem lX {g : FnE} (hg : ∀ {R : Type} (args : List AV) (hs : LHp) (k : aq -> LHp -> Option R), g.run args hs k = (g.run args hs fun a h => some (a, h)).bind fun p => k p.1 p.2) (args : List AV) (s : LSt) (k : E1 -> Option R) (kp : TypeId -> Int -> LHp -> Option R) :
  lR g args s k kp = (lR g args s (fun e => some (.inl e)) (fun t n w => some (.inr (t, n, w)))).bind (kk k kp) := by
 unfold lR
 simp only [Bool.cond_eq_ite]
 split
 ·split
  ·split
   ·rw [hg]
    conv => rhs; rw [hg]
    refine gK fun p => ?_
    repeat' (first | rfl | split)
   ·rfl
  ·rfl
 ·rfl
theorem sW {g : dV} (hg : ∀ {R : Type} (o : Nat) (args : List AV) (hs : LHp) (k : Bool -> LHp -> Option R), g.run o args hs k = (g.run o args hs fun a h => some (a, h)).bind fun p => k p.1 p.2) (q : Nat) (args : List AV) (s : LSt) (k : E1 -> Option R) :
  mF g q args s k = (mF g q args s some).bind k := by
 unfold mF
 simp only [Bool.cond_eq_ite]
 split
 ·split
  ·rfl
  ·split
   ·split
    ·split
     ·rw [hg]
      conv => rhs; rw [hg]
      refine gK fun p => ?_
      repeat' (first | rfl | split)
     ·rfl
    ·rfl
   ·rfl
 ·rfl
section
variable {E : Env} {s : LSt}
theorem Ia (hE : E.Good) (dst : Option Tmp) (c : Call) (k : E1 -> Option R) (kp : TypeId -> Int -> LHp -> Option R) :
  sF E dst c s k kp = (sF E dst c s (fun e => some (.inl e)) (fun t n w => some (.inr (t, n, w)))).bind (kk k kp) := by
 unfold sF
 simp only [Bool.cond_eq_ite]
 split
 ·split
  ·split
   ·rename_i g hg
    exact lX (fun args hs k => (hE.calls _ (fh hg)).eq args hs k) _ _ _ _
   ·split
    ·rename_i g hg _
     have he := fun {R : Type} (args : List AV) (k : AV -> Option R) => (hE.exts _ (fh hg)).eq args k
     simp only at he
     rw [he]
     conv => rhs; rw [he]
     exact gK fun _ => rfl
    ·rfl
  ·split
   ·rename_i g hg
    exact via (sW (fun o args hs k => (hE.round _ hg).eq o args hs k) _ _ _ _) (sW (fun o args hs k => (hE.round _ hg).eq o args hs k) _ _ _ _)
   ·rfl
  ·rfl
 ·split
  ·exact via (AF _ _ _) (AF _ _ _)
  ·split
   ·exact via (qx _ _ _ _ _) (qx _ _ _ _ _)
   ·split
    ·exact via (oB _ _ _ _ _) (oB _ _ _ _ _)
    ·rfl
  ·exact via (AG _ _ _) (AG _ _ _)
  ·exact via (AH _ _ _) (AH _ _ _)
  ·exact via (AI _ _ _) (AI _ _ _)
  ·exact via (vT _ _ _ _) (vT _ _ _ _)
  ·rfl
 ·rfl
theorem sX (hE : E.Good) (o : Oper) (k : E1 -> Option R) (kp : TypeId -> Int -> LHp -> Option R) :
  op1 E o s k kp = (op1 E o s (fun e => some (.inl e)) (fun t n w => some (.inr (t, n, w)))).bind (kk k kp) := by
 unfold op1
 simp only [Bool.cond_eq_ite]
 repeat' (first
  | rfl
  | exact via (vO _ _ _ _) (vO _ _ _ _)
  | exact via (sP _ _) (sP _ _)
  | exact via (AA _ _) (AA _ _)
  | exact via (sV _ _ _) (sV _ _ _)
  | exact via (AJ _ _ _ _) (AJ _ _ _ _)
  | exact via (vQ _ _ _) (vQ _ _ _)
  | exact via (sQ _ _ _ _) (sQ _ _ _ _)
  | exact via (AB _ _) (AB _ _)
  | exact via (Az _ _ _ _ _) (Az _ _ _ _ _)
  | exact via (Fk _ _ _) (Fk _ _ _)
  | exact via (vP _ _ _ _) (vP _ _ _ _)
  | exact via (sR _ _ _) (sR _ _ _)
  | exact via (vR _ _ _ _) (vR _ _ _ _)
  | exact via (vS _ _ _ _) (vS _ _ _ _)
  | exact via (sS _ _ _ _ _ _ _ _) (sS _ _ _ _ _ _ _ _)
  | exact via (lV _ _ _ _) (lV _ _ _ _)
  | exact via (sT _ _ _ _) (sT _ _ _ _)
  | exact via (lW _ _ _ _) (lW _ _ _ _)
  | exact via (sU _ _ _ _) (sU _ _ _ _)
  | exact via (qw _ _ _ _) (qw _ _ _ _)
  | exact via (oA _ _ _) (oA _ _ _)
  | exact Ia hE _ _ _ _
  | split)
theorem vU {α : Type} {n : Nat} {ops : Array Oper} {o : Oper} {on off : LSt -> Option R} {on' off' : LSt -> Option α} {K : α -> Option R} (h1 : ∀ s, on s = (on' s).bind K) (h2 : ∀ s, off s = (off' s).bind K) :
  nH n ops o s on off = (nH n ops o s on' off').bind K := by
 unfold nH
 simp only [Bool.cond_eq_ite]
 repeat' (first | rfl | exact h1 _ | exact h2 _ | split)
def kr (k : LSt -> Option R) (kp : TypeId -> Int -> LSt -> Option R) : LSt ⊕ (TypeId × Int × LSt) -> Option R
 | .inl e => k e
 | .inr p => kp p.1 p.2.1 p.2.2
theorem rl (hE : E.Good) {n : Nat} {ops : Array Oper} : ∀ (l : List Oper) (s : LSt) (k : LSt -> Option R) (kp : TypeId -> Int -> LSt -> Option R),
  An E n ops l s k kp = (An E n ops l s (fun s => some (.inl s)) (fun t m s => some (.inr (t, m, s)))).bind (kr k kp)
 | [], _, _, _ => rfl
 | o :: l, s, k, kp => by
  simp only [An]
  refine vU (fun s1 => ?_) (fun s1 => rl hE l _ k kp)
  rw [sX hE]
  conv => rhs; rw [sX hE]
  refine gK fun p => ?_
  cases p with
  | inl e => exact rl hE l _ k kp
  | inr p => rfl
theorem rm (hE : E.Good) (o : Oper) (k : E1 -> Option R) (kp : TypeId -> Int -> LHp -> Option R) :
  DH E o s k kp = (DH E o s (fun e => some (.inl e)) (fun t n w => some (.inr (t, n, w)))).bind (kk k kp) := by
 unfold DH
 split
 ·split
  ·split
   ·rename_i g hg
    rw [lX (fun args hs k => (hE.calls _ (fh hg)).eq args hs k)]
    conv => rhs; rw [lX (fun args hs k => (hE.calls _ (fh hg)).eq args hs k)]
    rw [Option.bind_assoc]
    congr 1
    funext p
    cases p <;> rfl
   ·exact sX hE o k kp
  ·exact sX hE o k kp
 ·exact sX hE o k kp
theorem xE (hE : E.Good) {α : Type} {ops : Array Oper} {cl : List Nat} {m q : Nat} {K : α -> Option R} {k : List Eff -> Option R} {k' : List Eff -> Option α} (hk : ∀ x, k x = (k' x).bind K) : ∀ (l : List Oper) (i : Nat) (s : LSt) (dy : List Nat) (ks : List Eff),
  Ao E ops cl m q l i s dy ks k = (Ao E ops cl m q l i s dy ks k').bind K
 | [], _, _, _, ks => hk ks
 | o :: l, i, s, dy, ks => by
  simp only [Ao]
  cases (cl.getD i 0).testBit m with
  | true => exact xE hE hk l _ _ _ _
  | false =>
   simp only [ax]
   cases o.guard.isNone && (o.looksAt ops).all (fun x => !dy.any (Nat.beq x)) with
   | false => rfl
   | true =>
    simp only [ai]
    rw [rm hE]
    conv => rhs; rw [rm hE]
    refine gK fun p => ?_
    cases p with
    | inl e =>
     simp only [kk]
     cases e.rd.all (fun x => !Nat.beq x q) && e.wr.all (fun p => !Nat.beq p.1 q) with
     | false => rfl
     | true => exact xE hE hk l _ _ _ _
    | inr p => rfl
theorem Qz (hE : E.Good) {α : Type} {ops : Array Oper} {o : Oper} {l : List Oper} {s : LSt} {ks : List Eff} {wr : LHp} {K : α -> Option R} {k : LSt -> Option R} {k' : LSt -> Option α} (hk : ∀ x, k x = (k' x).bind K) :
  H2 E ops o l s ks wr k = (H2 E ops o l s ks wr k').bind K := by
 unfold H2
 simp only
 cases o.guard.isNone && (uK (DI ((wr ++ s.hp).map (·.1)) [])).good with
 | false => rfl
 | true =>
  simp only [ai]
  split
  ·refine xE hE (fun ks2 => ?_) _ _ _ _ _
   simp only [Bool.cond_eq_ite]
   split
   ·exact hk _
   ·rfl
  ·rfl
theorem rn (hE : E.Good) {n : Nat} {ops : Array Oper} : ∀ (l : List Oper) (s : LSt) (ks : List Eff) (k : LSt -> Option R) (kp : TypeId -> Int -> LSt -> Option R),
  uL E n ops l s ks k kp = (uL E n ops l s ks (fun s => some (.inl s)) (fun t m s => some (.inr (t, m, s)))).bind (kr k kp)
 | [], s, ks, k, kp => by
  simp only [uL, Bool.cond_eq_ite]
  split <;> rfl
 | o :: l, s, ks, k, kp => by
  simp only [uL]
  refine vU (fun s1 => ?_) (fun s1 => rn hE l _ _ k kp)
  rw [rm hE]
  conv => rhs; rw [rm hE]
  refine gK fun p => ?_
  cases p with
  | inl e => exact rn hE l _ _ k kp
  | inr p =>
   cases h : Qp ops o ks with
   | true => simp only [kk, h, ai]; rfl
   | false =>
    simp only [kk, h, ax]
    exact Qz hE (fun _ => rfl)
end
end Go.Vm
