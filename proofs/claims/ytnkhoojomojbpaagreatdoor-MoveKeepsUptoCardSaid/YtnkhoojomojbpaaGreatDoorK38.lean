/- Part WH of the abstract machine: loops over functions that are left alone; what stands behind a call, by name. -/
import Derived.Test.YtnkhoojomojbpaaGreatDoorK35
namespace Go.Vm
variable {R : Type}
def exQ (E : Env) (cf : Cfg) (hl : Hl) : Code -> {R : Type} -> LSt -> (AEx -> LSt -> Option R) -> Option R
 | .seq a b, _, s, k => exQ E cf hl a s fun e s' =>
  match e with
  | .normal => exQ E cf hl b s' k
  | .exit id => k (.exit id) s'
  | .ret => k .ret s'
  | .panic t m => k (.panic t m) s'
 | .cond c a b, _, s, k =>
  (match s.ev E c with
  | .d .bool v => bif v then exQ E cf hl a (fU c s true) k else exQ E cf hl b (fU c s false) k
  | _ => none)
 | .block id c, _, s, k => exQ E cf hl c s fun e s' =>
  match e with
  | .normal => k .normal s'
  | .exit i => bif Nat.beq i id then k .normal s' else k (.exit i) s'
  | .ret => k .ret s'
  | .panic t m => k (.panic t m) s'
 | .rangeFunc f ps a b, R, s, k => hl (.rangeFunc f ps a b) R s k
 | c, _, s, k => exC E cf c s k
def rfp (E : Env) (cf : Cfg) : Hl := fun c _ s k => exC E cf c s k
theorem SK {E : Env} {cf : Cfg} : ∀ (c : Code) {R : Type} (s : LSt) (k : AEx -> LSt -> Option R), exQ E cf (rfp E cf) c s k = exC E cf c s k := by
 intro c
 induction c with
 | seq a b wQ zi =>
  intro R s k
  simp only [exC, exQ]
  rw [wQ]
  congr 1
  funext e s'
  cases e with
  | normal => exact zi s' k
  | exit id => rfl
  | ret => rfl
  | panic t m => rfl
 | cond c a b wQ zi =>
  intro R s k
  simp only [exC, exQ, wQ, zi]
  rfl
 | block id c ih =>
  intro R s k
  simp only [exC, exQ, ih]
  rfl
 | _ => intro R s k; rfl
def SL (E : Env) (cf : Cfg) (hl : Hl) (b : Code) (k : AEx -> LSt -> Option R) : AEx -> LSt -> Option R := fun e s' =>
 match e with
 | .normal => exQ E cf hl b s' k
 | .exit id => k (.exit id) s'
 | .ret => k .ret s'
 | .panic t m => k (.panic t m) s'
def YO (E : Env) (fn : Func) (depth : Nat) (live : List (Nat × List Nat)) (hl : Hl) (args : List AV) (hs : LHp) (k : aq -> LHp -> Option R) : Option R :=
 match fn.body with
 | none => none
 | some c =>
  bif Nat.ble args.length fn.ntmps && cj hs.length hs then
   exQ E ⟨fn.ntmps, depth, hs.length, live, true⟩ hl c ⟨aw depth (number 0 args), hs, hs.length⟩ (aZ E.P hs.length fn.results.toList k)
  else none
theorem Ix {E : Env} {fn : Func} {depth : Nat} {live : List (Nat × List Nat)} {args : List AV} {hs : LHp} {k : aq -> LHp -> Option R} : aC E fn depth live args hs k = YO E fn depth live (rfp E ⟨fn.ntmps, depth, hs.length, live, true⟩) args hs k := by
 unfold YO aC
 cases fn.body with
 | none => rfl
 | some c => simp only [SK]
def wa (L : List Nat) (hp : LHp) (nx : Nat) (k : E1 -> Option R) (kp : TypeId -> Int -> LHp -> Option R) : aq -> LHp -> Option R := fun ae aH =>
 let nw := dk L.length nx aH
 let cI := dF hp L 0 ++ nw
 bif cI.good && dY hp nw then
  (match jO aH cI cI with
  | some wr =>
   (match ae with
   | .ret rs => (match rens cI rs with | some fQ => k ⟨rZ fQ, [], wr, nx + aH.length⟩ | none => none)
   | .panic t n => kp t n wr)
  | none => none)
 else none
def rfK (fr : Tr) (iQ : LHp) (nx : Nat) (k : AEx -> LSt -> Option R) : E1 -> Option R := fun e =>
 match aA (e.wr ++ iQ) nx with
 | some (.rc (.loop n1 n2 st)) =>
  (match st with
  | .ready => k .normal ⟨fr, (nx, .rc (.loop n1 n2 .over)) :: (e.wr ++ iQ), e.nx⟩
  | .done .ret => k .ret ⟨fr, (nx, .rc (.loop n1 n2 .over)) :: (e.wr ++ iQ), e.nx⟩
  | .done (.exit id) => k (.exit id) ⟨fr, (nx, .rc (.loop n1 n2 .over)) :: (e.wr ++ iQ), e.nx⟩
  | _ => none)
 | _ => none
def rfP (fr : Tr) (iQ : LHp) (nx : Nat) (k : AEx -> LSt -> Option R) : TypeId -> Int -> LHp -> Option R := fun t m wr => k (.panic t m) ⟨fr, wr ++ iQ, nx + 1⟩
theorem Mp {E : Env} {fn : Func} {depth : Nat} {live : List (Nat × List Nat)} {args : List AV} {hs : LHp} {k : aq -> LHp -> Option R} (cf : Cfg) (h : (⟨fn.ntmps, depth, hs.length, live, true⟩ : Cfg) = cf) : aC E fn depth live args hs k = YO E fn depth live (rfp E cf) args hs k := by
 subst h
 exact Ix
theorem Mq (E : Env) (cf : Cfg) : ∃ hl : Hl, rfp E cf = hl := ⟨_, rfl⟩
end Go.Vm
