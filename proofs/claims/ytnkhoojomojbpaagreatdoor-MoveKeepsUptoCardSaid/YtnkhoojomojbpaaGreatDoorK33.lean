/- Part WD of the abstract machine: the executor with its rest in hand (loops and calls go on with what follows): the same answers. -/
import Derived.Test.YtnkhoojomojbpaaGreatDoorK31
import Derived.Test.YtnkhoojomojbpaaGreatDoorK32
namespace Go.Vm
universe u
variable {R : Type}
abbrev V4 : AEx -> LSt -> Option (AEx × LSt) := fun e s => some (e, s)
def pk (k : AEx -> LSt -> Option R) : AEx × LSt -> Option R := fun p => k p.1 p.2
theorem AK {E : Env} (hE : E.Good) {cf : Cfg} : ∀ (c : Code) {R : Type} (s : LSt) (k : AEx -> LSt -> Option R), ex E cf c s k = (ex E cf c s V4).bind (pk k) := by
 intro c
 induction c with
 | skip => intro R s k; rfl
 | label l => intro R s k; rfl
 | ret => intro R s k; rfl
 | exit id => intro R s k; rfl
 | region id ops dr =>
  intro R s k
  simp only [ex]
  cases dr with
  | true =>
   simp only [ai]
   rw [rn hE]
   conv => rhs; rw [rn hE]
   refine gK fun p => ?_
   cases p <;> rfl
  | false =>
   simp only [ax]
   rw [rl hE]
   conv => rhs; rw [rl hE]
   refine gK fun p => ?_
   cases p <;> rfl
 | seq a b wQ zi =>
  intro R s k
  simp only [ex]
  rw [wQ]
  conv => rhs; rw [wQ]
  refine gK fun p => ?_
  obtain ⟨e, s'⟩ := p
  cases e with
  | normal => exact zi s' k
  | exit id => rfl
  | ret => rfl
  | panic t m => rfl
 | cond c a b wQ zi =>
  intro R s k
  simp only [ex, Bool.cond_eq_ite]
  split
  ·split
   ·exact wQ _ k
   ·exact zi _ k
  ·rfl
 | block id c ih =>
  intro R s k
  simp only [ex]
  rw [ih]
  conv => rhs; rw [ih]
  refine gK fun p => ?_
  obtain ⟨e, s'⟩ := p
  cases e with
  | exit i =>
   simp only [pk]
   cases Nat.beq i id <;> rfl
  | normal => rfl
  | ret => rfl
  | panic t m => rfl
 | loop c ih =>
  intro R s k
  simp only [ex]
  split
  ·exact gK fun _ => rfl
  ·rfl
 | rangeFunc fop ps assign body _ _ =>
  intro R s k
  simp only [ex, Bool.cond_eq_ite]
  split
  ·split
   ·split
    ·rename_i g hg _
     rw [lX (fun args hs k => (hE.calls _ (fh hg)).eq args hs k)]
     conv => rhs; rw [lX (fun args hs k => (hE.calls _ (fh hg)).eq args hs k)]
     refine gK fun p => ?_
     cases p with
     | inl e =>
      simp only [kk]
      repeat' (first | rfl | split)
     | inr p => rfl
    ·rfl
   ·rfl
  ·rfl
 | _ => intro R s k; rfl
def sY (Bd : LSt -> (AEx -> LSt -> Option R) -> Option R) (N : LSt -> Option LSt) : Nat -> LSt -> (AEx -> LSt -> Option R) -> Option R
 | 0, _, _ => none
 | n + 1, s, k => Bd s fun e s' =>
  match e with
  | .normal => (match N s' with | some qD => sY Bd N n qD k | none => none)
  | .exit id => k (.exit id) s'
  | .ret => k .ret s'
  | .panic t m => k (.panic t m) s'
def exC (E : Env) (cf : Cfg) : Code -> {R : Type} -> LSt -> (AEx -> LSt -> Option R) -> Option R
 | .seq a b, _, s, k => exC E cf a s fun e s' =>
  match e with
  | .normal => exC E cf b s' k
  | .exit id => k (.exit id) s'
  | .ret => k .ret s'
  | .panic t m => k (.panic t m) s'
 | .cond c a b, _, s, k =>
  (match s.ev E c with
  | .d .bool v => bif v then exC E cf a (fU c s true) k else exC E cf b (fU c s false) k
  | _ => none)
 | .block id c, _, s, k => exC E cf c s fun e s' =>
  match e with
  | .normal => k .normal s'
  | .exit i => bif Nat.beq i id then k .normal s' else k (.exit i) s'
  | .ret => k .ret s'
  | .panic t m => k (.panic t m) s'
 | .loop c, _, s, k =>
  (match nrm cf c s with
  | some s0 => sY (fun st k' => exC E cf c st k') (nrm cf c) fu s0 k
  | none => none)
 | c, _, s, k => ex E cf c s k
theorem AL {E : Env} (hE : E.Good) {cf : Cfg} {c : Code} (ih : ∀ {R : Type} (s : LSt) (k : AEx -> LSt -> Option R), exC E cf c s k = ex E cf c s k) : ∀ (n : Nat) (s : LSt) (k : AEx -> LSt -> Option R),
  sY (fun st k' => exC E cf c st k') (nrm cf c) n s k = (r7 (fun st => ex E cf c st fun e s' =>
    match e with
    | .normal => (match nrm cf c s' with | some qD => some (.next qD) | none => none)
    | .exit id => some (.done ((AEx.exit id, s') : AEx × LSt))
    | .ret => some (.done (AEx.ret, s'))
    | .panic t m => some (.done (AEx.panic t m, s'))) n s).bind fun es => k es.1 es.2
 | 0, _, _ => rfl
 | n + 1, s, k => by
  simp only [sY, r7]
  rw [ih, AK hE]
  conv => rhs; rw [AK hE]
  cases ex E cf c s V4 with
  | none => rfl
  | some p =>
   obtain ⟨e, s'⟩ := p
   simp only [aB, pk]
   cases e with
   | normal =>
    simp only
    cases nrm cf c s' with
    | none => rfl
    | some qD => exact AL hE ih n qD k
   | exit id => rfl
   | ret => rfl
   | panic t m => rfl
theorem nM {E : Env} (hE : E.Good) {cf : Cfg} : ∀ (c : Code) {R : Type} (s : LSt) (k : AEx -> LSt -> Option R), exC E cf c s k = ex E cf c s k := by
 intro c
 induction c with
 | seq a b wQ zi =>
  intro R s k
  simp only [exC, ex]
  rw [wQ]
  congr 1
  funext e s'
  cases e with
  | normal => exact zi s' k
  | exit id => rfl
  | ret => rfl
  | panic t m => rfl
 | cond c a b wQ zi =>
  intro R s k
  simp only [exC, ex, wQ, zi]
  rfl
 | block id c ih =>
  intro R s k
  simp only [exC, ex, ih]
  rfl
 | loop c ih =>
  intro R s k
  simp only [exC, ex]
  cases nrm cf c s with
  | none => rfl
  | some s0 => exact AL hE (fun s k => ih s k) fu s0 k
 | _ => intro R s k; rfl
def aZ (P : Program) (base : Nat) (rv : List ResultVar) (k : aq -> LHp -> Option R) : AEx -> LSt -> Option R
 | .normal, s => (match nK P s rv with | some rs => fin base s.hp rs (fun fQ h1 => k (.ret fQ) h1) | none => none)
 | .ret, s => (match nK P s rv with | some rs => fin base s.hp rs (fun fQ h1 => k (.ret fQ) h1) | none => none)
 | .panic t m, s => fin base s.hp [] (fun _ h1 => k (.panic t m) h1)
 | .exit _, _ => none
theorem nN {base : Nat} {hp : LHp} {rs : List AV} {α : Type} {G : List AV -> LHp -> Option R} {g : List AV -> LHp -> Option α} {k : α -> Option R} (h : ∀ a b, G a b = (g a b).bind k) : fin base hp rs G = (fin base hp rs g).bind k := by
 unfold fin
 simp only [Bool.cond_eq_ite]
 repeat' (first | rfl | exact h _ _ | split)
theorem QD {P : Program} {base : Nat} {rv : List ResultVar} (k : aq -> LHp -> Option R) (e : AEx) (s : LSt) : aZ P base rv k e s = (H3 P base rv e s).bind fun p => k p.1 p.2 := by
 cases e with
 | exit id => rfl
 | normal =>
  simp only [aZ, H3]
  cases nK P s rv with
  | none => rfl
  | some rs => exact nN fun _ _ => rfl
 | ret =>
  simp only [aZ, H3]
  cases nK P s rv with
  | none => rfl
  | some rs => exact nN fun _ _ => rfl
 | panic t m =>
  simp only [aZ, H3]
  exact nN fun _ _ => rfl
def aC (E : Env) (fn : Func) (depth : Nat) (live : List (Nat × List Nat)) (args : List AV) (hs : LHp) (k : aq -> LHp -> Option R) : Option R :=
 match fn.body with
 | none => none
 | some c =>
  bif Nat.ble args.length fn.ntmps && cj hs.length hs then
   exC E ⟨fn.ntmps, depth, hs.length, live, true⟩ c ⟨aw depth (number 0 args), hs, hs.length⟩ (aZ E.P hs.length fn.results.toList k)
  else none
theorem kx {E : Env} (hE : E.Good) {cf : Cfg} {c : Code} {s : LSt} {α : Type} {K : AEx -> LSt -> Option R} {K' : AEx -> LSt -> Option α} {g : α -> Option R} (h : ∀ e s, K e s = (K' e s).bind g) : ex E cf c s K = (ex E cf c s K').bind g := by
 rw [AK hE]
 conv => rhs; rw [AK hE]
 exact gK fun p => h p.1 p.2
theorem rp {E : Env} (hE : E.Good) {fn : Func} {depth : Nat} {live : List (Nat × List Nat)} (args : List AV) (hs : LHp) (k : aq -> LHp -> Option R) : aC E fn depth live args hs k = (sM E fn depth live args hs).bind fun p => k p.1 p.2 := by
 unfold aC sM
 cases fn.body with
 | none => rfl
 | some c =>
  simp only [Bool.cond_eq_ite]
  split
  ·rw [nM hE]
   exact kx hE fun e s => QD k e s
  ·rfl
def au (E : Env) (fn : Func) (depth : Nat) (live : List (Nat × List Nat)) : FnE := { run := fun args hs k => aC E fn depth live args hs k }
theorem eM {E : Env} (hE : E.Good) (bO : E.P.follows .mixedOrders = true) {f : FuncId} {fn : Func} {depth : Nat} {live : List (Nat × List Nat)} (hf : E.P.funcs[f]? = some fn) (hcall : ∀ (vs : Array Value) (w : World), (callFunc f vs).run E.P w = .ok (.enter f vs) w)
  (hcode : (match fn.body with | some c => b7 fn.ntmps c | none => true) = true) (hdep : Nat.blt fn.ntmps (2 ^ depth) = true) : FnE.OK E.P E.gam f (au E fn depth live) := by
 have h := H4 hE bO hf hcall hcode hdep (live := live)
 refine FnE.OK.of h (fun args hs k => ?_) fun args hs ae aH e => ?_
 ·simp only [au]
  rw [rp hE, rp hE]
  cases sM E fn depth live args hs <;> rfl
 ·simp only [au] at e
  rw [rp hE] at e
  exact e
end Go.Vm
