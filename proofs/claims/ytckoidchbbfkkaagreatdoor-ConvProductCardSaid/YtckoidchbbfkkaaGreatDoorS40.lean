/- Part WH of the abstract machine: loops over functions that are left alone; what stands behind a call, by name. -/
import Derived.Test.YtckoidchbbfkkaaGreatDoorS36
namespace Go.Vm
variable {R : Type}

/-- the executor that leaves loops over functions to hl -/
def exQ (E : Env) (cf : Cfg) (hl : Hl) : Code → {R : Type} → LSt → (AEx → LSt → Option R) → Option R
  | .seq a b, _, s, k => exQ E cf hl a s fun e s' =>
    match e with
    | .normal => exQ E cf hl b s' k
    | .exit id => k (.exit id) s'
    | .ret => k .ret s'
    | .panic t m => k (.panic t m) s'
  | .cond c a b, _, s, k =>
    (match s.ev E c with
    | .d .bool v => bif v then exQ E cf hl a (condSet c s true) k else exQ E cf hl b (condSet c s false) k
    | _ => none)
  | .block id c, _, s, k => exQ E cf hl c s fun e s' =>
    match e with
    | .normal => k .normal s'
    | .exit i => bif Nat.beq i id then k .normal s' else k (.exit i) s'
    | .ret => k .ret s'
    | .panic t m => k (.panic t m) s'
  | .rangeFunc f ps a b, R, s, k => hl (.rangeFunc f ps a b) R s k
  | c, _, s, k => exC E cf c s k

/-- what runs a loop over a function -/
def rfp (E : Env) (cf : Cfg) : Hl := fun c _ s k => exC E cf c s k

theorem exQ_exC {E : Env} {cf : Cfg} : ∀ (c : Code) {R : Type} (s : LSt) (k : AEx → LSt → Option R), exQ E cf (rfp E cf) c s k = exC E cf c s k := by
  intro c
  induction c with
  | seq a b iha ihb =>
    intro R s k
    simp only [exC, exQ]
    rw [iha]
    congr 1
    funext e s'
    cases e with
    | normal => exact ihb s' k
    | exit id => rfl
    | ret => rfl
    | panic t m => rfl
  | cond c a b iha ihb =>
    intro R s k
    simp only [exC, exQ, iha, ihb]
    rfl
  | block id c ih =>
    intro R s k
    simp only [exC, exQ, ih]
    rfl
  | _ => intro R s k; rfl

def seqQ (E : Env) (cf : Cfg) (hl : Hl) (b : Code) (k : AEx → LSt → Option R) : AEx → LSt → Option R := fun e s' =>
  match e with
  | .normal => exQ E cf hl b s' k
  | .exit id => k (.exit id) s'
  | .ret => k .ret s'
  | .panic t m => k (.panic t m) s'
def runQ (E : Env) (fn : Func) (depth : Nat) (live : List (Nat × List Nat)) (hl : Hl) (args : List AV) (hs : LHp) (k : AEnd → LHp → Option R) : Option R :=
  match fn.body with
  | none => none
  | some c =>
    bif Nat.ble args.length fn.ntmps && below hs.length hs then
      exQ E ⟨fn.ntmps, depth, hs.length, live, true⟩ hl c ⟨mkFr depth (number 0 args), hs, hs.length⟩ (endC E.P hs.length fn.results.toList k)
    else none
theorem runQ_runC {E : Env} {fn : Func} {depth : Nat} {live : List (Nat × List Nat)} {args : List AV} {hs : LHp} {k : AEnd → LHp → Option R} : runC E fn depth live args hs k = runQ E fn depth live (rfp E ⟨fn.ntmps, depth, hs.length, live, true⟩) args hs k := by
  unfold runQ runC
  cases fn.body with
  | none => rfl
  | some c => simp only [exQ_exC]

/-- what stands behind a call -/
def callK (L : List Nat) (hp : LHp) (nx : Nat) (k : E1 → Option R) (kp : TypeId → Int → LHp → Option R) : AEnd → LHp → Option R := fun ae hs' =>
  let nw := sgNew L.length nx hs'
  let σ' := sgOut hp L 0 ++ nw
  bif σ'.good && freeAll hp nw then
    (match renP hs' σ' σ' with
    | some wr =>
      (match ae with
      | .ret rs => (match rens σ' rs with | some rs' => k ⟨retAV rs', [], wr, nx + hs'.length⟩ | none => none)
      | .panic t n => kp t n wr)
    | none => none)
  else none
/-- what stands behind a loop over a function -/
def rfK (fr : Tr) (hp1 : LHp) (nx : Nat) (k : AEx → LSt → Option R) : E1 → Option R := fun e =>
  match hget (e.wr ++ hp1) nx with
  | some (.rc (.loop lc1 fr1 st)) =>
    (match st with
    | .ready => k .normal ⟨fr, (nx, .rc (.loop lc1 fr1 .over)) :: (e.wr ++ hp1), e.nx⟩
    | .done .ret => k .ret ⟨fr, (nx, .rc (.loop lc1 fr1 .over)) :: (e.wr ++ hp1), e.nx⟩
    | .done (.exit id) => k (.exit id) ⟨fr, (nx, .rc (.loop lc1 fr1 .over)) :: (e.wr ++ hp1), e.nx⟩
    | _ => none)
  | _ => none
def rfP (fr : Tr) (hp1 : LHp) (nx : Nat) (k : AEx → LSt → Option R) : TypeId → Int → LHp → Option R := fun t m wr => k (.panic t m) ⟨fr, wr ++ hp1, nx + 1⟩
/-! ### records of data are data -/

def AV.norm : AV → AV
  | .pr a b =>
    (match a.norm, b.norm with
    | .d t x, .d u y => .d (.pair t u) (x, y)
    | a', b' => .pr a' b')
  | a => a
theorem AV.norm_agg (a : AV) : a.norm.isAgg = a.isAgg := by
  cases a with
  | pr a b =>
    simp only [AV.norm]
    split <;> rfl
  | _ => rfl
theorem AV.norm_rep {w : World} {im : Nat → Prop} {μ : Mu} {hp : Hp} : ∀ (a : AV) (cs : List Value), RepA w im μ hp a cs → RepA w im μ hp a.norm cs
  | .pr a b, cs, h => by
    simp only [RepA] at h
    obtain ⟨c1, c2, e, h1, h2⟩ := h
    have g1 := AV.norm_rep a c1 h1
    have g2 := AV.norm_rep b c2 h2
    simp only [AV.norm]
    split
    · rename_i t x u y ha hb
      rw [ha] at g1
      rw [hb] at g2
      simp only [RepA] at g1 g2 ⊢
      exact ⟨c1, c2, e, g1, g2⟩
    · simp only [RepA]
      exact ⟨c1, c2, e, g1, g2⟩
  | .undef, _, h => h
  | .d _ _, _, h => h
  | .ip _ _, _, h => h
  | .op _ _ _, _, h => h
  | .os _ _, _, h => h
  | .oe _ _ _, _, h => h
  | .ow _ _ _ _, _, h => h
  | .nils, _, h => h
  | .emp, _, h => h
  | .tup _, _, h => h
  | .fn _ _ _, _, h => h
  | .nilfn, _, h => h
  | .iface _ _, _, h => h
  | .nilif, _, h => h
  | .nilp, _, h => h
  | .ref _, _, h => h
def normL : List AV → List AV
  | [] => []
  | a :: l => a.norm :: normL l
theorem normL_rep {w : World} {im : Nat → Prop} {μ : Mu} {hp : Hp} : ∀ {l : List AV} {vs : List Value}, RepFs w im μ hp l vs → RepFs w im μ hp (normL l) vs
  | [], _, h => h
  | a :: l, vs, h => by
    simp only [RepFs] at h
    obtain ⟨v, us, e, h1, h2, h3⟩ := h
    simp only [normL, RepFs]
    exact ⟨v, us, e, AV.norm_rep a _ h1, by rw [AV.norm_agg]; exact h2, normL_rep h3⟩
/-- an answer for data serves records of data -/
def normE (g : FnE) : FnE := { run := fun args hs k => g.run (normL args) hs k }
theorem normE_ok {P : Program} {Γ : Nat → Option AV} {f : FuncId} {g : FnE} (h : FnE.OK P Γ f g) : FnE.OK P Γ f (normE g) :=
  ⟨fun args hs k => h.eq (normL args) hs k, fun args hs ae hs' e => by
    have hf := h.ok (normL args) hs ae hs' e
    exact ⟨hf.1, fun W im μ vals h1 h2 h3 h4 => hf.2 W im μ vals h1 h2 h3 (normL_rep h4)⟩⟩
end Go.Vm
