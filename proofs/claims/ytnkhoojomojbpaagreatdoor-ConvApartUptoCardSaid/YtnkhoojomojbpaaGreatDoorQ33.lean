/- Part WD of the abstract machine: the executor with its rest in hand (loops and calls go on with what follows): the same answers. -/
import Derived.Test.YtnkhoojomojbpaaGreatDoorQ31
import Derived.Test.YtnkhoojomojbpaaGreatDoorQ32
namespace Go.Vm
universe u
variable {R : Type}
abbrev V6 : AEx -> LSt -> Option (AEx × LSt) := fun e s => some (e, s)
def pk (k : AEx -> LSt -> Option R) : AEx × LSt -> Option R := fun p => k p.1 p.2
theorem A4 {E : Env} (hE : E.Good) {cf : Cfg} : ∀ (c : Code) {R : Type} (s : LSt) (k : AEx -> LSt -> Option R), ex E cf c s k = (ex E cf c s V6).bind (pk k) := by
 intro c
 induction c with
 | skip => intro R s k; rfl
 | label l => intro R s k; rfl
 | ret => intro R s k; rfl
 | exit id => intro R s k; rfl
 | region id ops dr =>
  intro R s k
  simp only [ex]
  cases dr with
  | true =>
   simp only [ak]
   rw [r6 hE]
   conv => rhs; rw [r6 hE]
   refine ib fun p => ?_
   cases p <;> rfl
  | false =>
   simp only [ax]
   rw [r4 hE]
   conv => rhs; rw [r4 hE]
   refine ib fun p => ?_
   cases p <;> rfl
 | seq a b vq vO =>
  intro R s k
  simp only [ex]
  rw [vq]
  conv => rhs; rw [vq]
  refine ib fun p => ?_
  obtain ⟨e, s'⟩ := p
  cases e with
  | normal => exact vO s' k
  | exit id => rfl
  | ret => rfl
  | panic t m => rfl
 | cond c a b vq vO =>
  intro R s k
  simp only [ex, Bool.cond_eq_ite]
  split
  ·split
   ·exact vq _ k
   ·exact vO _ k
  ·rfl
 | block id c ih =>
  intro R s k
  simp only [ex]
  rw [ih]
  conv => rhs; rw [ih]
  refine ib fun p => ?_
  obtain ⟨e, s'⟩ := p
  cases e with
  | exit i =>
   simp only [pk]
   cases Nat.beq i id <;> rfl
  | normal => rfl
  | ret => rfl
  | panic t m => rfl
 | loop c ih =>
  intro R s k
  simp only [ex]
  split
  ·exact ib fun _ => rfl
  ·rfl
 | rangeFunc fop ps assign body _ _ =>
  intro R s k
  simp only [ex, Bool.cond_eq_ite]
  split
  ·split
   ·split
    ·rename_i g hg _
     rw [mH (fun args hs k => (hE.calls _ (fy hg)).eq args hs k)]
     conv => rhs; rw [mH (fun args hs k => (hE.calls _ (fy hg)).eq args hs k)]
     refine ib fun p => ?_
     cases p with
     | inl e =>
      simp only [kk]
      repeat' (first | rfl | split)
     | inr p => rfl
    ·rfl
   ·rfl
  ·rfl
 | _ => intro R s k; rfl
def tV (Bd : LSt -> (AEx -> LSt -> Option R) -> Option R) (N : LSt -> Option LSt) : Nat -> LSt -> (AEx -> LSt -> Option R) -> Option R
 | 0, _, _ => none
 | n + 1, s, k => Bd s fun e s' =>
  match e with
  | .normal => (match N s' with | some rl => tV Bd N n rl k | none => none)
  | .exit id => k (.exit id) s'
  | .ret => k .ret s'
  | .panic t m => k (.panic t m) s'
def exC (E : Env) (cf : Cfg) : Code -> {R : Type} -> LSt -> (AEx -> LSt -> Option R) -> Option R
 | .seq a b, _, s, k => exC E cf a s fun e s' =>
  match e with
  | .normal => exC E cf b s' k
  | .exit id => k (.exit id) s'
  | .ret => k .ret s'
  | .panic t m => k (.panic t m) s'
 | .cond c a b, _, s, k =>
  (match s.ev E c with
  | .d .bool v => bif v then exC E cf a (gE c s true) k else exC E cf b (gE c s false) k
  | _ => none)
 | .block id c, _, s, k => exC E cf c s fun e s' =>
  match e with
  | .normal => k .normal s'
  | .exit i => bif Nat.beq i id then k .normal s' else k (.exit i) s'
  | .ret => k .ret s'
  | .panic t m => k (.panic t m) s'
 | .loop c, _, s, k =>
  (match nrm cf c s with
  | some s0 => tV (fun st k' => exC E cf c st k') (nrm cf c) fu s0 k
  | none => none)
 | c, _, s, k => ex E cf c s k
theorem A5 {E : Env} (hE : E.Good) {cf : Cfg} {c : Code} (ih : ∀ {R : Type} (s : LSt) (k : AEx -> LSt -> Option R), exC E cf c s k = ex E cf c s k) : ∀ (n : Nat) (s : LSt) (k : AEx -> LSt -> Option R),
  tV (fun st k' => exC E cf c st k') (nrm cf c) n s k = (sX (fun st => ex E cf c st fun e s' =>
    match e with
    | .normal => (match nrm cf c s' with | some rl => some (.next rl) | none => none)
    | .exit id => some (.done ((AEx.exit id, s') : AEx × LSt))
    | .ret => some (.done (AEx.ret, s'))
    | .panic t m => some (.done (AEx.panic t m, s'))) n s).bind fun es => k es.1 es.2
 | 0, _, _ => rfl
 | n + 1, s, k => by
  simp only [tV, sX]
  rw [ih, A4 hE]
  conv => rhs; rw [A4 hE]
  cases ex E cf c s V6 with
  | none => rfl
  | some p =>
   obtain ⟨e, s'⟩ := p
   simp only [aA, pk]
   cases e with
   | normal =>
    simp only
    cases nrm cf c s' with
    | none => rfl
    | some rl => exact A5 hE ih n rl k
   | exit id => rfl
   | ret => rfl
   | panic t m => rfl
theorem oA {E : Env} (hE : E.Good) {cf : Cfg} : ∀ (c : Code) {R : Type} (s : LSt) (k : AEx -> LSt -> Option R), exC E cf c s k = ex E cf c s k := by
 intro c
 induction c with
 | seq a b vq vO =>
  intro R s k
  simp only [exC, ex]
  rw [vq]
  congr 1
  funext e s'
  cases e with
  | normal => exact vO s' k
  | exit id => rfl
  | ret => rfl
  | panic t m => rfl
 | cond c a b vq vO =>
  intro R s k
  simp only [exC, ex, vq, vO]
  rfl
 | block id c ih =>
  intro R s k
  simp only [exC, ex, ih]
  rfl
 | loop c ih =>
  intro R s k
  simp only [exC, ex]
  cases nrm cf c s with
  | none => rfl
  | some s0 => exact A5 hE (fun s k => ih s k) fu s0 k
 | _ => intro R s k; rfl
def bA (P : Program) (base : Nat) (rv : List ResultVar) (k : aq -> LHp -> Option R) : AEx -> LSt -> Option R
 | .normal, s => (match ox P s rv with | some rs => fin base s.hp rs (fun fO h1 => k (.ret fO) h1) | none => none)
 | .ret, s => (match ox P s rv with | some rs => fin base s.hp rs (fun fO h1 => k (.ret fO) h1) | none => none)
 | .panic t m, s => fin base s.hp [] (fun _ h1 => k (.panic t m) h1)
 | .exit _, _ => none
theorem oB {base : Nat} {hp : LHp} {rs : List AV} {α : Type} {G : List AV -> LHp -> Option R} {g : List AV -> LHp -> Option α} {k : α -> Option R} (h : ∀ a b, G a b = (g a b).bind k) : fin base hp rs G = (fin base hp rs g).bind k := by
 unfold fin
 simp only [Bool.cond_eq_ite]
 repeat' (first | rfl | exact h _ _ | split)
theorem Qw {P : Program} {base : Nat} {rv : List ResultVar} (k : aq -> LHp -> Option R) (e : AEx) (s : LSt) : bA P base rv k e s = (Ic P base rv e s).bind fun p => k p.1 p.2 := by
 cases e with
 | exit id => rfl
 | normal =>
  simp only [bA, Ic]
  cases ox P s rv with
  | none => rfl
  | some rs => exact oB fun _ _ => rfl
 | ret =>
  simp only [bA, Ic]
  cases ox P s rv with
  | none => rfl
  | some rs => exact oB fun _ _ => rfl
 | panic t m =>
  simp only [bA, Ic]
  exact oB fun _ _ => rfl
def aC (E : Env) (fn : Func) (depth : Nat) (live : List (Nat × List Nat)) (args : List AV) (hs : LHp) (k : aq -> LHp -> Option R) : Option R :=
 match fn.body with
 | none => none
 | some c =>
  bif Nat.ble args.length fn.ntmps && cF hs.length hs then
   exC E ⟨fn.ntmps, depth, hs.length, live, true⟩ c ⟨aw depth (number 0 args), hs, hs.length⟩ (bA E.P hs.length fn.results.toList k)
  else none
theorem kZ {E : Env} (hE : E.Good) {cf : Cfg} {c : Code} {s : LSt} {α : Type} {K : AEx -> LSt -> Option R} {K' : AEx -> LSt -> Option α} {g : α -> Option R} (h : ∀ e s, K e s = (K' e s).bind g) : ex E cf c s K = (ex E cf c s K').bind g := by
 rw [A4 hE]
 conv => rhs; rw [A4 hE]
 exact ib fun p => h p.1 p.2
theorem r7 {E : Env} (hE : E.Good) {fn : Func} {depth : Nat} {live : List (Nat × List Nat)} (args : List AV) (hs : LHp) (k : aq -> LHp -> Option R) : aC E fn depth live args hs k = (tK E fn depth live args hs).bind fun p => k p.1 p.2 := by
 unfold aC tK
 cases fn.body with
 | none => rfl
 | some c =>
  simp only [Bool.cond_eq_ite]
  split
  ·rw [oA hE]
   exact kZ hE fun e s => Qw k e s
  ·rfl
def au (E : Env) (fn : Func) (depth : Nat) (live : List (Nat × List Nat)) : FnE := { run := fun args hs k => aC E fn depth live args hs k }
theorem jN {E : Env} (hE : E.Good) (bX : E.P.follows .mixedOrders = true) {f : FuncId} {fn : Func} {depth : Nat} {live : List (Nat × List Nat)} (hf : E.P.funcs[f]? = some fn) (hcall : ∀ (vs : Array Value) (w : World), (callFunc f vs).run E.P w = .ok (.enter f vs) w)
  (hcode : (match fn.body with | some c => cA fn.ntmps c | none => true) = true) (hdep : Nat.blt fn.ntmps (2 ^ depth) = true) : FnE.OK E.P E.gam f (au E fn depth live) := by
 have h := Ie hE bX hf hcall hcode hdep (live := live)
 refine FnE.OK.of h (fun args hs k => ?_) fun args hs ae aF e => ?_
 ·simp only [au]
  rw [r7 hE, r7 hE]
  cases tK E fn depth live args hs <;> rfl
 ·simp only [au] at e
  rw [r7 hE] at e
  exact e
end Go.Vm
