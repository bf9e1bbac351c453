/- Part WF of the abstract machine: names for what stands behind a loop; answers of functions that the executor with its rest in hand confirms. -/
import Derived.Test.YtnkhoojomojbpaaGreatDoorK34
namespace Go.Vm
variable {R : Type}
def lp (E : Env) (cf : Cfg) (c : Code) (n : Nat) (s : LSt) (k : AEx -> LSt -> Option R) : Option R := sY (fun st k' => exC E cf c st k') (nrm cf c) n s k
abbrev Hl := Code -> (R : Type) -> LSt -> (AEx -> LSt -> Option R) -> Option R
def hlp (E : Env) (cf : Cfg) : Hl := fun c _ s k => lp E cf c fu s k
def ad6 : List Nat -> Nat -> Bool
 | [], _ => false
 | a :: l, n => Nat.beq a n || ad6 l n
def bH (ids : List Nat) (c : Code) : Bool := match ia c with | some i => ad6 ids i | none => false
def exH (E : Env) (cf : Cfg) (ids : List Nat) (hl : Hl) : Code -> {R : Type} -> LSt -> (AEx -> LSt -> Option R) -> Option R
 | .seq a b, _, s, k => exH E cf ids hl a s fun e s' =>
  match e with
  | .normal => exH E cf ids hl b s' k
  | .exit id => k (.exit id) s'
  | .ret => k .ret s'
  | .panic t m => k (.panic t m) s'
 | .cond c a b, _, s, k =>
  (match s.ev E c with
  | .d .bool v => bif v then exH E cf ids hl a (fU c s true) k else exH E cf ids hl b (fU c s false) k
  | _ => none)
 | .block id c, _, s, k => exH E cf ids hl c s fun e s' =>
  match e with
  | .normal => k .normal s'
  | .exit i => bif Nat.beq i id then k .normal s' else k (.exit i) s'
  | .ret => k .ret s'
  | .panic t m => k (.panic t m) s'
 | .loop c, R, s, k =>
  (match nrm cf c s with
  | some s0 => bif bH ids c then hl c R s0 k else sY (fun st k' => exH E cf ids hl c st k') (nrm cf c) fu s0 k
  | none => none)
 | c, _, s, k => ex E cf c s k
theorem xF {E : Env} {cf : Cfg} {ids : List Nat} : ∀ (c : Code) {R : Type} (s : LSt) (k : AEx -> LSt -> Option R), exH E cf ids (hlp E cf) c s k = exC E cf c s k := by
 intro c
 induction c with
 | seq a b wQ zi =>
  intro R s k
  simp only [exC, exH]
  rw [wQ]
  congr 1
  funext e s'
  cases e with
  | normal => exact zi s' k
  | exit id => rfl
  | ret => rfl
  | panic t m => rfl
 | cond c a b wQ zi =>
  intro R s k
  simp only [exC, exH, wQ, zi]
  rfl
 | block id c ih =>
  intro R s k
  simp only [exC, exH, ih]
  rfl
 | loop c ih =>
  intro R s k
  simp only [exC, exH]
  cases nrm cf c s with
  | none => rfl
  | some s0 =>
   simp only
   cases bH ids c with
   | true => rfl
   | false =>
    simp only [ax]
    congr 1
    funext st k'
    exact ih st k'
 | _ => intro R s k; rfl
def aX (E : Env) (cf : Cfg) (ids : List Nat) (hl : Hl) (b : Code) (k : AEx -> LSt -> Option R) : AEx -> LSt -> Option R := fun e s' =>
 match e with
 | .normal => exH E cf ids hl b s' k
 | .exit id => k (.exit id) s'
 | .ret => k .ret s'
 | .panic t m => k (.panic t m) s'
def lpH (E : Env) (cf : Cfg) (ids : List Nat) (hl : Hl) (c : Code) (n : Nat) (s : LSt) (k : AEx -> LSt -> Option R) : Option R := sY (fun st k' => exH E cf ids hl c st k') (nrm cf c) n s k
theorem kZ {E : Env} {cf : Cfg} {ids : List Nat} {c : Code} {n : Nat} {s : LSt} {k : AEx -> LSt -> Option R} : lpH E cf ids (hlp E cf) c n s k = lp E cf c n s k := by
 unfold lpH lp
 congr 1
 funext st k'
 exact xF c st k'
def oE (E : Env) (cf : Cfg) (ids : List Nat) (hl : Hl) (c : Code) (n : Nat) (k : AEx -> LSt -> Option R) : AEx -> LSt -> Option R := fun e s' =>
 match e with
 | .normal => (match nrm cf c s' with | some qD => lpH E cf ids hl c n qD k | none => none)
 | .exit id => k (.exit id) s'
 | .ret => k .ret s'
 | .panic t m => k (.panic t m) s'
def QE (E : Env) (fn : Func) (depth : Nat) (live : List (Nat × List Nat)) (ids : List Nat) (hl : Hl) (args : List AV) (hs : LHp) (k : aq -> LHp -> Option R) : Option R :=
 match fn.body with
 | none => none
 | some c =>
  bif Nat.ble args.length fn.ntmps && cj hs.length hs then
   exH E ⟨fn.ntmps, depth, hs.length, live, true⟩ ids hl c ⟨aw depth (number 0 args), hs, hs.length⟩ (aZ E.P hs.length fn.results.toList k)
  else none
theorem vX {E : Env} {fn : Func} {depth : Nat} {live : List (Nat × List Nat)} {ids : List Nat} {args : List AV} {hs : LHp} {k : aq -> LHp -> Option R} : aC E fn depth live args hs k = QE E fn depth live ids (hlp E ⟨fn.ntmps, depth, hs.length, live, true⟩) args hs k := by
 unfold QE aC
 cases fn.body with
 | none => rfl
 | some c => simp only [xF]
abbrev ah : aq -> LHp -> Option (aq × LHp) := fun a h => some (a, h)
def orT (a b : Tq) : Tq := match a with | .no => b | t => t
theorem QF {a b : Tq} {k : aq -> LHp -> Option R} {r : R} (h : (orT a b).run k = some r) : a.run k = some r \/ b.run k = some r := by
 cases a with
 | no => exact .inr h
 | leaf _ _ => exact .inl h
 | br _ _ _ => exact .inl h
 | opt _ _ => exact .inl h
theorem ky {P : Program} {Γ : Nat -> Option AV} {f : FuncId} {F1 F2 : List AV -> LHp -> Tq} (h1 : FnE.OK P Γ f (ao F1)) (h2 : FnE.OK P Γ f (ao F2)) : FnE.OK P Γ f (ao fun a h => orT (F1 a h) (F2 a h)) := by
 refine ⟨fun _ _ _ => Tq.eq _ _, fun args hs ae aH h => ?_⟩
 have h' : (orT (F1 args hs) (F2 args hs)).run ah = some (ae, aH) := h
 rcases QF h' with h' | h'
 ·exact h1.ok _ _ _ _ h'
 ·exact h2.ok _ _ _ _ h'
def oF (F : List AV -> LHp -> Tq) (g : FnE) : FnE := { run := fun args hs k => match F args hs with | .no => g.run args hs k | t => t.run k }
theorem AN {P : Program} {Γ : Nat -> Option AV} {f : FuncId} {F : List AV -> LHp -> Tq} {g : FnE} (h1 : FnE.OK P Γ f (ao F)) (h2 : FnE.OK P Γ f g) : FnE.OK P Γ f (oF F g) := by
 refine ⟨fun args hs k => ?_, fun args hs ae aH h => ?_⟩
 ·simp only [oF]
  cases F args hs with
  | no => exact h2.eq _ _ _
  | leaf a b => exact Tq.eq _ _
  | br a b c => exact Tq.eq _ _
  | opt a b => exact Tq.eq _ _
 ·simp only [oF] at h
  have h3 : (F args hs).run ah = some (ae, aH) -> FnH P Γ f args (aA hs) (fun nd h1 => nd = ae /\ h1 = aA aH) := fun e => h1.ok args hs ae aH e
  cases hF : F args hs with
  | no => rw [hF] at h; exact h2.ok _ _ _ _ h
  | leaf a b => rw [hF] at h h3; exact h3 h
  | br a b c => rw [hF] at h h3; exact h3 h
  | opt a b => rw [hF] at h h3; exact h3 h
theorem FnE.OK.okC {E : Env} {fn : Func} {depth : Nat} {live : List (Nat × List Nat)} {P : Program} {Γ : Nat -> Option AV} {f : FuncId} (h : FnE.OK P Γ f (au E fn depth live)) {args : List AV} {hs aH : LHp} {ae : aq} (e : aC E fn depth live args hs ah = some (ae, aH)) : FnH P Γ f args (aA hs) (fun nd h1 => nd = ae /\ h1 = aA aH) := h.ok args hs ae aH e
theorem bW {E : Env} (hE : E.Good) (bO : E.P.follows .mixedOrders = true) {f : FuncId} {fn : Func} {depth : Nat} {live : List (Nat × List Nat)} {F : List AV -> LHp -> Tq} (hf : E.P.funcs[f]? = some fn) (hcall : ∀ (vs : Array Value) (w : World), (callFunc f vs).run E.P w = .ok (.enter f vs) w)
  (hcode : (match fn.body with | some c => b7 fn.ntmps c | none => true) = true) (hdep : Nat.blt fn.ntmps (2 ^ depth) = true)
  (eq : ∀ args hs p, (F args hs).run ah = some p -> aC E fn depth live args hs ah = some p) : FnE.OK E.P E.gam f (ao F) :=
 KO (eM hE bO hf hcall hcode hdep (live := live)) fun args hs p h => eq args hs p h
theorem gL {E : Env} (hE : E.Good) (bO : E.P.follows .mixedOrders = true) {f : FuncId} {fn : Func} {depth : Nat} {live : List (Nat × List Nat)} {F : List AV -> LHp -> Option (aq × LHp)} (hf : E.P.funcs[f]? = some fn) (hcall : ∀ (vs : Array Value) (w : World), (callFunc f vs).run E.P w = .ok (.enter f vs) w)
  (hcode : (match fn.body with | some c => b7 fn.ntmps c | none => true) = true) (hdep : Nat.blt fn.ntmps (2 ^ depth) = true)
  (eq : ∀ args hs p, F args hs = some p -> aC E fn depth live args hs ah = some p) : FnE.OK E.P E.gam f (fnE F) :=
 XH (eM hE bO hf hcall hcode hdep (live := live)) fun args hs p h => eq args hs p h
theorem Ib {E : Env} (hE : E.Good) (bO : E.P.follows .mixedOrders = true) {f : FuncId} {fn : Func} {depth : Nat} {live : List (Nat × List Nat)} (hf : E.P.funcs[f]? = some fn) (hcall : ∀ (vs : Array Value) (w : World), (callFunc f vs).run E.P w = .ok (.enter f vs) w)
  (hcode : (match fn.body with | some c => b7 fn.ntmps c | none => true) = true) (hdep : Nat.blt fn.ntmps (2 ^ depth) = true) {args : List AV} {hs aH : LHp} {ae : aq} (h : aC E fn depth live args hs ah = some (ae, aH)) :
  FnH E.P E.gam f args (aA hs) fun nd h1 => nd = ae /\ h1 = aA aH :=
 (eM hE bO hf hcall hcode hdep (live := live)).ok args hs ae aH h
theorem V5 {S : Type} {T : Nat -> S -> Option R} {f : Nat -> S} : ∀ (N m : Nat), N <= m -> (∀ i, i < N -> ∀ n, T (n + 1) (f i) = T n (f (i + 1))) -> T m (f 0) = T (m - N) (f N) := by
 intro N
 induction N generalizing f with
 | zero => intro m _ _; rfl
 | succ N ih =>
  intro m hm h
  obtain ⟨m', rfl⟩ : ∃ m', m = m' + 1 := ⟨m - 1, by omega⟩
  rw [h 0 (by omega) m', ih (f := fun i => f (i + 1)) m' (by omega) fun i hi n => h (i + 1) (by omega) n]
  congr 1
  omega
theorem fx {S α : Type} {T : Nat -> S -> Option R} {xs : List α} {p : α -> Bool} {st : Int -> S} {r : Int -> α -> Option R} {r0 : Int -> Option R} (hl : xs.length <= maxLen)
  (h : ∀ (i : Int) (n : Nat), T (n + 1) (st i) = bif decide (i < Int.ofNat xs.length) then (idx xs i).bind fun x => bif p x then r i x else T n (st (IntKind.i64.wrap (i + 1))) else r0 i) :
  T fu (st 0) = (match xs.findIdx? p with | some i => (xs[i]?).bind fun x => r (i : Int) x | none => r0 (Int.ofNat xs.length)) := by
 have hm : maxLen = 9223372036854775807 := by decide
 have hf : fu = 18446744073709551616 := rfl
 have step : ∀ i, i < xs.length -> (∀ x, xs[i]? = some x -> p x = false) -> ∀ n, T (n + 1) (st (i : Nat)) = T n (st ((i + 1 : Nat) : Int)) := by
  intro i hi hp n
  obtain ⟨x, hx⟩ : ∃ x, xs[i]? = some x := ⟨xs[i], List.getElem?_eq_getElem hi⟩
  have hidx : idx xs (i : Int) = some x := by unfold idx; rw [if_pos (by omega), Int.toNat_natCast, hx]
  rw [h i, aD (show (i : Int) < Int.ofNat xs.length from Int.ofNat_lt.2 hi), hidx]
  simp only [ai, aB, hp x hx, ax]
  rw [aI (by omega) (by omega)]
  rfl
 cases hq : xs.findIdx? p with
 | none =>
  rw [List.findIdx?_eq_none_iff] at hq
  have := V5 (T := T) (f := fun i : Nat => st (i : Int)) xs.length fu (by omega) (fun i hi => step i hi fun x hx => by simpa using hq x (List.mem_of_getElem? hx))
  refine Eq.trans this ?_
  obtain ⟨m', hm'⟩ : ∃ m', fu - xs.length = m' + 1 := ⟨fu - xs.length - 1, by omega⟩
  rw [hm', h, bU (show ¬ ((xs.length : Nat) : Int) < Int.ofNat xs.length from Int.lt_irrefl _)]
  rfl
 | some n =>
  obtain ⟨hn, hp, hnp⟩ := List.findIdx?_eq_some_iff_getElem.1 hq
  have hx : xs[n]? = some xs[n] := List.getElem?_eq_getElem hn
  have := V5 (T := T) (f := fun i : Nat => st (i : Int)) n fu (by omega) (fun i hi => step i (by omega) fun x hx => by
   have h1 := hnp i hi
   rw [List.getElem?_eq_getElem (by omega)] at hx
   cases hx
   simpa using h1)
  refine Eq.trans this ?_
  obtain ⟨m', hm'⟩ : ∃ m', fu - n = m' + 1 := ⟨fu - n - 1, by omega⟩
  have hidx : idx xs (n : Int) = some xs[n] := by unfold idx; rw [if_pos (by omega), Int.toNat_natCast, hx]
  rw [hm', h, aD (show (n : Int) < Int.ofNat xs.length from Int.ofNat_lt.2 hn), hidx]
  simp only [ai, aB, hp, hx]
theorem lY {E : Env} {cf : Cfg} {c : Code} (ids : List Nat) : (lp (R := R) E cf c) = lpH E cf ids (hlp E cf) c := by
 funext n s k
 exact kZ.symm
theorem bq {E : Env} {fn : Func} {depth : Nat} {live : List (Nat × List Nat)} {args : List AV} {hs : LHp} {k : aq -> LHp -> Option R} (ids : List Nat) (cf : Cfg) (h : (⟨fn.ntmps, depth, hs.length, live, true⟩ : Cfg) = cf) : aC E fn depth live args hs k = QE E fn depth live ids (hlp E cf) args hs k := by
 subst h
 exact vX
theorem bc (E : Env) (cf : Cfg) : ∃ hl : Hl, hlp E cf = hl := ⟨_, rfl⟩
end Go.Vm
