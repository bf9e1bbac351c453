/- Part WD of the abstract machine: the executor with its rest in hand (loops and calls go on with what follows): the same answers. -/
import Derived.Test.YtckoidchbbfkkaaGreatDoorS30
import Derived.Test.YtckoidchbbfkkaaGreatDoorS33
namespace Go.Vm
universe u
variable {R : Type}

abbrev pairK : AEx → LSt → Option (AEx × LSt) := fun e s => some (e, s)
def pk (k : AEx → LSt → Option R) : AEx × LSt → Option R := fun p => k p.1 p.2

theorem ex_eq {E : Env} (hE : E.Good) {cf : Cfg} : ∀ (c : Code) {R : Type} (s : LSt) (k : AEx → LSt → Option R), ex E cf c s k = (ex E cf c s pairK).bind (pk k) := by
  intro c
  induction c with
  | skip => intro R s k; rfl
  | label l => intro R s k; rfl
  | ret => intro R s k; rfl
  | exit id => intro R s k; rfl
  | region id ops dr =>
    intro R s k
    simp only [ex]
    cases dr with
    | true =>
      simp only [cond_true]
      rw [regD_eq hE]
      conv => rhs; rw [regD_eq hE]
      refine bind_c fun p => ?_
      cases p <;> rfl
    | false =>
      simp only [cond_false]
      rw [regN_eq hE]
      conv => rhs; rw [regN_eq hE]
      refine bind_c fun p => ?_
      cases p <;> rfl
  | seq a b iha ihb =>
    intro R s k
    simp only [ex]
    rw [iha]
    conv => rhs; rw [iha]
    refine bind_c fun p => ?_
    obtain ⟨e, s'⟩ := p
    cases e with
    | normal => exact ihb s' k
    | exit id => rfl
    | ret => rfl
    | panic t m => rfl
  | cond c a b iha ihb =>
    intro R s k
    simp only [ex, Bool.cond_eq_ite]
    split
    · split
      · exact iha _ k
      · exact ihb _ k
    · rfl
  | block id c ih =>
    intro R s k
    simp only [ex]
    rw [ih]
    conv => rhs; rw [ih]
    refine bind_c fun p => ?_
    obtain ⟨e, s'⟩ := p
    cases e with
    | exit i =>
      simp only [pk]
      cases Nat.beq i id <;> rfl
    | normal => rfl
    | ret => rfl
    | panic t m => rfl
  | loop c ih =>
    intro R s k
    simp only [ex]
    split
    · exact bind_c fun _ => rfl
    · rfl
  | rangeFunc fop ps assign body _ _ =>
    intro R s k
    simp only [ex, Bool.cond_eq_ite]
    split
    · split
      · split
        · rename_i g hg _
          rw [callE_eq (fun args hs k => (hE.calls _ (lk_mem hg)).eq args hs k)]
          conv => rhs; rw [callE_eq (fun args hs k => (hE.calls _ (lk_mem hg)).eq args hs k)]
          refine bind_c fun p => ?_
          cases p with
          | inl e =>
            simp only [kk]
            repeat' (first | rfl | split)
          | inr p => rfl
        · rfl
      · rfl
    · rfl
  | _ => intro R s k; rfl

/-- a loop, with its rest in hand -/
def loopC (Bd : LSt → (AEx → LSt → Option R) → Option R) (N : LSt → Option LSt) : Nat → LSt → (AEx → LSt → Option R) → Option R
  | 0, _, _ => none
  | n + 1, s, k => Bd s fun e s' =>
    match e with
    | .normal => (match N s' with | some s'' => loopC Bd N n s'' k | none => none)
    | .exit id => k (.exit id) s'
    | .ret => k .ret s'
    | .panic t m => k (.panic t m) s'

def exC (E : Env) (cf : Cfg) : Code → {R : Type} → LSt → (AEx → LSt → Option R) → Option R
  | .seq a b, _, s, k => exC E cf a s fun e s' =>
    match e with
    | .normal => exC E cf b s' k
    | .exit id => k (.exit id) s'
    | .ret => k .ret s'
    | .panic t m => k (.panic t m) s'
  | .cond c a b, _, s, k =>
    (match s.ev E c with
    | .d .bool v => bif v then exC E cf a (condSet c s true) k else exC E cf b (condSet c s false) k
    | _ => none)
  | .block id c, _, s, k => exC E cf c s fun e s' =>
    match e with
    | .normal => k .normal s'
    | .exit i => bif Nat.beq i id then k .normal s' else k (.exit i) s'
    | .ret => k .ret s'
    | .panic t m => k (.panic t m) s'
  | .loop c, _, s, k =>
    (match nrm cf c s with
    | some s0 => loopC (fun st k' => exC E cf c st k') (nrm cf c) fu s0 k
    | none => none)
  | c, _, s, k => ex E cf c s k

theorem loopC_eq {E : Env} (hE : E.Good) {cf : Cfg} {c : Code} (ih : ∀ {R : Type} (s : LSt) (k : AEx → LSt → Option R), exC E cf c s k = ex E cf c s k) : ∀ (n : Nat) (s : LSt) (k : AEx → LSt → Option R),
    loopC (fun st k' => exC E cf c st k') (nrm cf c) n s k = (loopM (fun st => ex E cf c st fun e s' =>
        match e with
        | .normal => (match nrm cf c s' with | some s'' => some (.next s'') | none => none)
        | .exit id => some (.done ((AEx.exit id, s') : AEx × LSt))
        | .ret => some (.done (AEx.ret, s'))
        | .panic t m => some (.done (AEx.panic t m, s'))) n s).bind fun es => k es.1 es.2
  | 0, _, _ => rfl
  | n + 1, s, k => by
    simp only [loopC, loopM]
    rw [ih, ex_eq hE]
    conv => rhs; rw [ex_eq hE]
    cases ex E cf c s pairK with
    | none => rfl
    | some p =>
      obtain ⟨e, s'⟩ := p
      simp only [Option.bind_some, pk]
      cases e with
      | normal =>
        simp only
        cases nrm cf c s' with
        | none => rfl
        | some s'' => exact loopC_eq hE ih n s'' k
      | exit id => rfl
      | ret => rfl
      | panic t m => rfl

theorem exC_ex {E : Env} (hE : E.Good) {cf : Cfg} : ∀ (c : Code) {R : Type} (s : LSt) (k : AEx → LSt → Option R), exC E cf c s k = ex E cf c s k := by
  intro c
  induction c with
  | seq a b iha ihb =>
    intro R s k
    simp only [exC, ex]
    rw [iha]
    congr 1
    funext e s'
    cases e with
    | normal => exact ihb s' k
    | exit id => rfl
    | ret => rfl
    | panic t m => rfl
  | cond c a b iha ihb =>
    intro R s k
    simp only [exC, ex, iha, ihb]
    rfl
  | block id c ih =>
    intro R s k
    simp only [exC, ex, ih]
    rfl
  | loop c ih =>
    intro R s k
    simp only [exC, ex]
    cases nrm cf c s with
    | none => rfl
    | some s0 => exact loopC_eq hE (fun s k => ih s k) fu s0 k
  | _ => intro R s k; rfl

/-! ### functions -/

def endC (P : Program) (base : Nat) (rv : List ResultVar) (k : AEnd → LHp → Option R) : AEx → LSt → Option R
  | .normal, s => (match resF P s rv with | some rs => fin base s.hp rs (fun rs' h1 => k (.ret rs') h1) | none => none)
  | .ret, s => (match resF P s rv with | some rs => fin base s.hp rs (fun rs' h1 => k (.ret rs') h1) | none => none)
  | .panic t m, s => fin base s.hp [] (fun _ h1 => k (.panic t m) h1)
  | .exit _, _ => none

theorem fin_eq {base : Nat} {hp : LHp} {rs : List AV} {α : Type} {G : List AV → LHp → Option R} {g : List AV → LHp → Option α} {k : α → Option R} (h : ∀ a b, G a b = (g a b).bind k) : fin base hp rs G = (fin base hp rs g).bind k := by
  unfold fin
  simp only [Bool.cond_eq_ite]
  repeat' (first | rfl | exact h _ _ | split)
theorem endC_eq {P : Program} {base : Nat} {rv : List ResultVar} (k : AEnd → LHp → Option R) (e : AEx) (s : LSt) : endC P base rv k e s = (endK P base rv e s).bind fun p => k p.1 p.2 := by
  cases e with
  | exit id => rfl
  | normal =>
    simp only [endC, endK]
    cases resF P s rv with
    | none => rfl
    | some rs => exact fin_eq fun _ _ => rfl
  | ret =>
    simp only [endC, endK]
    cases resF P s rv with
    | none => rfl
    | some rs => exact fin_eq fun _ _ => rfl
  | panic t m =>
    simp only [endC, endK]
    exact fin_eq fun _ _ => rfl

/-- a body of the program, run with its rest in hand -/
def runC (E : Env) (fn : Func) (depth : Nat) (live : List (Nat × List Nat)) (args : List AV) (hs : LHp) (k : AEnd → LHp → Option R) : Option R :=
  match fn.body with
  | none => none
  | some c =>
    bif Nat.ble args.length fn.ntmps && below hs.length hs then
      exC E ⟨fn.ntmps, depth, hs.length, live, true⟩ c ⟨mkFr depth (number 0 args), hs, hs.length⟩ (endC E.P hs.length fn.results.toList k)
    else none

theorem ex_after {E : Env} (hE : E.Good) {cf : Cfg} {c : Code} {s : LSt} {α : Type} {K : AEx → LSt → Option R} {K' : AEx → LSt → Option α} {g : α → Option R} (h : ∀ e s, K e s = (K' e s).bind g) : ex E cf c s K = (ex E cf c s K').bind g := by
  rw [ex_eq hE]
  conv => rhs; rw [ex_eq hE]
  exact bind_c fun p => h p.1 p.2

theorem runC_eq {E : Env} (hE : E.Good) {fn : Func} {depth : Nat} {live : List (Nat × List Nat)} (args : List AV) (hs : LHp) (k : AEnd → LHp → Option R) : runC E fn depth live args hs k = (execB E fn depth live args hs).bind fun p => k p.1 p.2 := by
  unfold runC execB
  cases fn.body with
  | none => rfl
  | some c =>
    simp only [Bool.cond_eq_ite]
    split
    · rw [exC_ex hE]
      exact ex_after hE fun e s => endC_eq k e s
    · rfl

def execFnC (E : Env) (fn : Func) (depth : Nat) (live : List (Nat × List Nat)) : FnE := { run := fun args hs k => runC E fn depth live args hs k }

theorem execFnC_ok {E : Env} (hE : E.Good) (hmix : E.P.follows .mixedOrders = true) {f : FuncId} {fn : Func} {depth : Nat} {live : List (Nat × List Nat)} (hf : E.P.funcs[f]? = some fn) (hcall : ∀ (vs : Array Value) (w : World), (callFunc f vs).run E.P w = .ok (.enter f vs) w)
    (hcode : (match fn.body with | some c => codeIn fn.ntmps c | none => true) = true) (hdep : Nat.blt fn.ntmps (2 ^ depth) = true) : FnE.OK E.P E.gam f (execFnC E fn depth live) := by
  have h := execFn_ok hE hmix hf hcall hcode hdep (live := live)
  refine FnE.OK.of h (fun args hs k => ?_) fun args hs ae hs' e => ?_
  · simp only [execFnC]
    rw [runC_eq hE, runC_eq hE]
    cases execB E fn depth live args hs <;> rfl
  · simp only [execFnC] at e
    rw [runC_eq hE] at e
    exact e

end Go.Vm
