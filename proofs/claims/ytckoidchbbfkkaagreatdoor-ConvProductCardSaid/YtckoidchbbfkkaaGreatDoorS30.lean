/- Part QC of the abstract machine: calls, operations and regions go on as they are told. -/
import Derived.Test.YtckoidchbbfkkaaGreatDoorS29
namespace Go.Vm
universe u
variable {R : Type}

abbrev Pn := TypeId × Int × LHp
def kk (k : E1 → Option R) (kp : TypeId → Int → LHp → Option R) : E1 ⊕ Pn → Option R
  | .inl e => k e
  | .inr p => kp p.1 p.2.1 p.2.2
theorem via {X : Option E1} {A : Option R} {B : Option (E1 ⊕ Pn)} {k : E1 → Option R} {kp : TypeId → Int → LHp → Option R} (h1 : A = X.bind k) (h2 : B = X.bind fun e => some (.inl e)) : A = B.bind (kk k kp) := by
  subst h1 h2
  rw [Option.bind_assoc]; rfl
theorem bind_c {α β : Type} {x : Option α} {G : α → Option R} {g : α → Option β} {k : β → Option R} (h : ∀ a, G a = (g a).bind k) : x.bind G = (x.bind g).bind k := by
  cases x with
  | none => rfl
  | some a => exact h a

theorem callE_eq {g : FnE} (hg : ∀ {R : Type} (args : List AV) (hs : LHp) (k : AEnd → LHp → Option R), g.run args hs k = (g.run args hs fun a h => some (a, h)).bind fun p => k p.1 p.2) (args : List AV) (s : LSt) (k : E1 → Option R) (kp : TypeId → Int → LHp → Option R) :
    callE g args s k kp = (callE g args s (fun e => some (.inl e)) (fun t n w => some (.inr (t, n, w)))).bind (kk k kp) := by
  unfold callE
  simp only [Bool.cond_eq_ite]
  split
  · split
    · split
      · rw [hg]
        conv => rhs; rw [hg]
        refine bind_c fun p => ?_
        repeat' (first | rfl | split)
      · rfl
    · rfl
  · rfl

theorem opYield_eq {g : RoundE} (hg : ∀ {R : Type} (o : Nat) (args : List AV) (hs : LHp) (k : Bool → LHp → Option R), g.run o args hs k = (g.run o args hs fun a h => some (a, h)).bind fun p => k p.1 p.2) (q : Nat) (args : List AV) (s : LSt) (k : E1 → Option R) :
    opYield g q args s k = (opYield g q args s some).bind k := by
  unfold opYield
  simp only [Bool.cond_eq_ite]
  split
  · split
    · rfl
    · split
      · split
        · split
          · rw [hg]
            conv => rhs; rw [hg]
            refine bind_c fun p => ?_
            repeat' (first | rfl | split)
          · rfl
        · rfl
      · rfl
  · rfl

section
variable {E : Env} {s : LSt}

theorem opCall_eq (hE : E.Good) (dst : Option Tmp) (c : Call) (k : E1 → Option R) (kp : TypeId → Int → LHp → Option R) :
    opCall E dst c s k kp = (opCall E dst c s (fun e => some (.inl e)) (fun t n w => some (.inr (t, n, w)))).bind (kk k kp) := by
  unfold opCall
  simp only [Bool.cond_eq_ite]
  split
  · split
    · split
      · rename_i g hg
        exact callE_eq (fun args hs k => (hE.calls _ (lk_mem hg)).eq args hs k) _ _ _ _
      · split
        · rename_i g hg _
          have he := fun {R : Type} (args : List AV) (k : AV → Option R) => (hE.exts _ (lk_mem hg)).eq args k
          simp only at he
          rw [he]
          conv => rhs; rw [he]
          exact bind_c fun _ => rfl
        · rfl
    · split
      · rename_i g hg
        exact via (opYield_eq (fun o args hs k => (hE.round _ hg).eq o args hs k) _ _ _ _) (opYield_eq (fun o args hs k => (hE.round _ hg).eq o args hs k) _ _ _ _)
      · rfl
    · rfl
  · split
    · exact via (opLen_eq _ _ _) (opLen_eq _ _ _)
    · split
      · exact via (opAppend_eq _ _ _ _ _) (opAppend_eq _ _ _ _ _)
      · split
        · exact via (opAppendZ_eq _ _ _ _ _) (opAppendZ_eq _ _ _ _ _)
        · rfl
    · exact via (opCap_eq _ _ _) (opCap_eq _ _ _)
    · exact via (opMax_eq _ _ _) (opMax_eq _ _ _)
    · exact via (opMin_eq _ _ _) (opMin_eq _ _ _)
    · exact via (opCopy_eq _ _ _ _) (opCopy_eq _ _ _ _)
    · rfl
  · rfl

theorem op1_eq (hE : E.Good) (o : Oper) (k : E1 → Option R) (kp : TypeId → Int → LHp → Option R) :
    op1 E o s k kp = (op1 E o s (fun e => some (.inl e)) (fun t n w => some (.inr (t, n, w)))).bind (kk k kp) := by
  unfold op1
  simp only [Bool.cond_eq_ite]
  repeat' (first
    | rfl
    | exact via (opPick_eq _ _ _ _) (opPick_eq _ _ _ _)
    | exact via (opAlloc_eq _ _) (opAlloc_eq _ _)
    | exact via (opBox_eq _ _) (opBox_eq _ _)
    | exact via (opBuild_eq _ _ _) (opBuild_eq _ _ _)
    | exact via (opLit_eq _ _ _ _) (opLit_eq _ _ _ _)
    | exact via (opLoad_eq _ _ _) (opLoad_eq _ _ _)
    | exact via (opStore_eq _ _ _ _) (opStore_eq _ _ _ _)
    | exact via (opNil_eq _ _) (opNil_eq _ _)
    | exact via (opBin_eq _ _ _ _ _) (opBin_eq _ _ _ _ _)
    | exact via (opUn_eq _ _ _) (opUn_eq _ _ _)
    | exact via (opConv_eq _ _ _ _) (opConv_eq _ _ _ _)
    | exact via (opIface_eq _ _ _) (opIface_eq _ _ _)
    | exact via (opFunc_eq _ _ _ _) (opFunc_eq _ _ _ _)
    | exact via (opMake_eq _ _ _ _) (opMake_eq _ _ _ _)
    | exact via (opSlice_eq _ _ _ _ _ _ _ _) (opSlice_eq _ _ _ _ _ _ _ _)
    | exact via (opFieldAddr_eq _ _ _ _) (opFieldAddr_eq _ _ _ _)
    | exact via (opField_eq _ _ _ _) (opField_eq _ _ _ _)
    | exact via (opIndexAddr_eq _ _ _ _) (opIndexAddr_eq _ _ _ _)
    | exact via (opIndex_eq _ _ _ _) (opIndex_eq _ _ _ _)
    | exact via (opAssert_eq _ _ _ _) (opAssert_eq _ _ _ _)
    | exact via (opExtract_eq _ _ _) (opExtract_eq _ _ _)
    | exact via (opMakeMap_eq _) (opMakeMap_eq _)
    | exact via (opMapSet_eq _ _ _ _ _) (opMapSet_eq _ _ _ _ _)
    | exact via (opLookup_eq _ _ _ _) (opLookup_eq _ _ _ _)
    | exact opCall_eq hE _ _ _ _
    | split)

theorem guardN_eq {α : Type} {n : Nat} {ops : Array Oper} {o : Oper} {on off : LSt → Option R} {on' off' : LSt → Option α} {K : α → Option R} (h1 : ∀ s, on s = (on' s).bind K) (h2 : ∀ s, off s = (off' s).bind K) :
    guardN n ops o s on off = (guardN n ops o s on' off').bind K := by
  unfold guardN
  simp only [Bool.cond_eq_ite]
  repeat' (first | rfl | exact h1 _ | exact h2 _ | split)
def kr (k : LSt → Option R) (kp : TypeId → Int → LSt → Option R) : LSt ⊕ (TypeId × Int × LSt) → Option R
  | .inl e => k e
  | .inr p => kp p.1 p.2.1 p.2.2
theorem regN_eq (hE : E.Good) {n : Nat} {ops : Array Oper} : ∀ (l : List Oper) (s : LSt) (k : LSt → Option R) (kp : TypeId → Int → LSt → Option R),
    regN E n ops l s k kp = (regN E n ops l s (fun s => some (.inl s)) (fun t m s => some (.inr (t, m, s)))).bind (kr k kp)
  | [], _, _, _ => rfl
  | o :: l, s, k, kp => by
    simp only [regN]
    refine guardN_eq (fun s1 => ?_) (fun s1 => regN_eq hE l _ k kp)
    rw [op1_eq hE]
    conv => rhs; rw [op1_eq hE]
    refine bind_c fun p => ?_
    cases p with
    | inl e => exact regN_eq hE l _ k kp
    | inr p => rfl
theorem op1D_eq (hE : E.Good) (o : Oper) (k : E1 → Option R) (kp : TypeId → Int → LHp → Option R) :
    op1D E o s k kp = (op1D E o s (fun e => some (.inl e)) (fun t n w => some (.inr (t, n, w)))).bind (kk k kp) := by
  unfold op1D
  split
  · split
    · split
      · rename_i g hg
        rw [callE_eq (fun args hs k => (hE.calls _ (lk_mem hg)).eq args hs k)]
        conv => rhs; rw [callE_eq (fun args hs k => (hE.calls _ (lk_mem hg)).eq args hs k)]
        rw [Option.bind_assoc]
        congr 1
        funext p
        cases p <;> rfl
      · exact op1_eq hE o k kp
    · exact op1_eq hE o k kp
  · exact op1_eq hE o k kp
theorem regD_eq (hE : E.Good) {n : Nat} {ops : Array Oper} : ∀ (l : List Oper) (s : LSt) (ks : List Eff) (k : LSt → Option R) (kp : TypeId → Int → LSt → Option R),
    regD E n ops l s ks k kp = (regD E n ops l s ks (fun s => some (.inl s)) (fun t m s => some (.inr (t, m, s)))).bind (kr k kp)
  | [], s, ks, k, kp => by
    simp only [regD, Bool.cond_eq_ite]
    split <;> rfl
  | o :: l, s, ks, k, kp => by
    simp only [regD]
    refine guardN_eq (fun s1 => ?_) (fun s1 => regD_eq hE l _ _ k kp)
    rw [op1D_eq hE]
    conv => rhs; rw [op1D_eq hE]
    refine bind_c fun p => ?_
    cases p with
    | inl e => exact regD_eq hE l _ _ k kp
    | inr p =>
      cases h : panD ops o ks with
      | true => simp only [kk, h, cond_true]; rfl
      | false => simp only [kk, h, cond_false]; rfl
end
end Go.Vm
