/- Part WE of the abstract machine: functions with a deferred closure, and loops over functions, with their rest in hand. -/
import Derived.Test.YtckoidchbbfkkaaGreatDoorS34
namespace Go.Vm
universe u
variable {R : Type}

def runGC (E : Env) (D : DefC) (rest : Code) (args : List AV) (av : AV) (hs : LHp) (k : LHp → Option R) : Option R :=
  bif Nat.ble args.length D.gn.ntmps && below hs.length hs then
    exC E ⟨D.gn.ntmps, D.depth, hs.length, D.live, false⟩ rest ⟨((mkFr D.depth (number 0 args)).set D.t5 av).set D.t2 av, hs, hs.length⟩ fun e s =>
      match e with
      | .normal => fin hs.length s.hp [] (fun _ h1 => k h1)
      | .ret => fin hs.length s.hp [] (fun _ h1 => k h1)
      | _ => none
  else none
theorem runGC_eq {E : Env} (hE : E.Good) {D : DefC} {rest : Code} {args : List AV} {av : AV} {hs : LHp} {k : LHp → Option R} : runGC E D rest args av hs k = (runG E D rest args av hs).bind k := by
  unfold runGC runG
  simp only [Bool.cond_eq_ite]
  split
  · rw [exC_ex hE]
    refine ex_after hE fun e s => ?_
    cases e with
    | normal => exact fin_eq fun _ _ => rfl
    | ret => exact fin_eq fun _ _ => rfl
    | exit i => rfl
    | panic t n => rfl
  · rfl

def endDC (E : Env) (D : DefC) (rest : Code) (base : Nat) (rv : List ResultVar) (caps : List AV) (k : AEnd → LHp → Option R) (e : AEx) (s : LSt) : Option R :=
  match recV e with
  | none => none
  | some av =>
    let L := reach s.hp manyFuel (refsL caps) []
    let σ := sgIn s.hp L 0
    bif σ.good then
      (match rens σ caps with
      | some args =>
        (match renP s.hp σ σ with
        | some hs =>
          runGC E D rest args av hs fun hs' =>
            let nw := sgNew L.length s.nx hs'
            let σ' := sgOut s.hp L 0 ++ nw
            bif σ'.good && freeAll s.hp nw then
              (match renP hs' σ' σ' with
              | some wr =>
                (match resF E.P ⟨s.fr, wr ++ s.hp, s.nx⟩ rv with
                | some rs => fin base (wr ++ s.hp) rs (fun rs' h1 => k (.ret rs') h1)
                | none => none)
              | none => none)
            else none
        | none => none)
      | none => none)
    else none

theorem endDC_eq {E : Env} (hE : E.Good) {D : DefC} {rest : Code} {base : Nat} {rv : List ResultVar} {caps : List AV} (k : AEnd → LHp → Option R) (e : AEx) (s : LSt) : endDC E D rest base rv caps k e s = (endD E D rest base rv caps e s).bind fun p => k p.1 p.2 := by
  unfold endDC endD
  cases recV e with
  | none => rfl
  | some av =>
    simp only
    cases (sgIn s.hp (reach s.hp manyFuel (refsL caps) []) 0).good with
    | false => rfl
    | true =>
      simp only [cond_true]
      cases rens (sgIn s.hp (reach s.hp manyFuel (refsL caps) []) 0) caps with
      | none => rfl
      | some args =>
        simp only
        cases renP s.hp (sgIn s.hp (reach s.hp manyFuel (refsL caps) []) 0) (sgIn s.hp (reach s.hp manyFuel (refsL caps) []) 0) with
        | none => rfl
        | some hs =>
          simp only
          rw [runGC_eq hE]
          cases runG E D rest args av hs with
          | none => rfl
          | some hs' =>
            simp only [Option.bind_some]
            generalize (sgOut s.hp (reach s.hp manyFuel (refsL caps) []) 0 ++ sgNew (reach s.hp manyFuel (refsL caps) []).length s.nx hs') = σ'
            cases Sg.good σ' && freeAll s.hp (sgNew (reach s.hp manyFuel (refsL caps) []).length s.nx hs') with
            | false => rfl
            | true =>
              simp only [cond_true]
              cases renP hs' σ' σ' with
              | none => rfl
              | some wr =>
                simp only
                cases resF E.P ⟨s.fr, wr ++ s.hp, s.nx⟩ rv with
                | none => rfl
                | some rs => exact fin_eq fun _ _ => rfl

def execDC (E : Env) (fn : Func) (depth : Nat) (live : List (Nat × List Nat)) (D : DefC) (args : List AV) (hs : LHp) (k : AEnd → LHp → Option R) : Option R :=
  match fn.body, D.gn.body with
  | some (.seq R0 (.seq _ y)), some (.seq _ rest) =>
    bif Nat.ble args.length fn.ntmps && below hs.length hs then
      exC E ⟨fn.ntmps, depth, hs.length, live, false⟩ R0 ⟨mkFr depth (number 0 args), hs, hs.length⟩ fun e0 s0 =>
        match e0 with
        | .normal =>
          let caps := evs E s0 D.caps
          bif caps.all (boxAt s0.hp) && below s0.nx s0.hp then
            exC E ⟨fn.ntmps, depth, s0.nx, live, false⟩ y (s0.set D.t15 (.fn (.func D.g) [] caps)) (endDC E D rest hs.length fn.results.toList caps k)
          else none
        | _ => none
    else none
  | _, _ => none

theorem execDC_eq {E : Env} (hE : E.Good) {fn : Func} {depth : Nat} {live : List (Nat × List Nat)} {D : DefC} (args : List AV) (hs : LHp) (k : AEnd → LHp → Option R) : execDC E fn depth live D args hs k = (execD E fn depth live D args hs).bind fun p => k p.1 p.2 := by
  unfold execDC execD
  cases fn.body with
  | none => rfl
  | some c1 =>
    cases c1 with
    | seq R0 z =>
      cases z with
      | seq q y =>
        cases D.gn.body with
        | none => rfl
        | some c2 =>
          cases c2 with
          | seq q2 rest =>
            simp only
            cases Nat.ble args.length fn.ntmps && below hs.length hs with
            | false => rfl
            | true =>
              simp only [cond_true]
              rw [exC_ex hE]
              refine ex_after hE fun e0 s0 => ?_
              cases e0 with
              | normal =>
                simp only
                cases (evs E s0 D.caps).all (boxAt s0.hp) && below s0.nx s0.hp with
                | false => rfl
                | true =>
                  simp only [cond_true]
                  rw [exC_ex hE]
                  exact ex_after hE fun e s => endDC_eq hE k e s
              | exit i => rfl
              | ret => rfl
              | panic t n => rfl
          | _ => rfl
      | _ => rfl
    | _ => rfl

/-- the same function, with its rest in hand -/
def execFnDC (E : Env) (fn : Func) (depth : Nat) (live : List (Nat × List Nat)) (D : DefC) : FnE := { run := fun args hs k => execDC E fn depth live D args hs k }
theorem execFnDC_ok {E : Env} (hE : E.Good) {f : FuncId} {fn : Func} {depth : Nat} {live : List (Nat × List Nat)} {D : DefC} {P : Program} {Γ : Nat → Option AV} (h : FnE.OK P Γ f (execFnD E fn depth live D)) : FnE.OK P Γ f (execFnDC E fn depth live D) := by
  refine FnE.OK.of h (fun args hs k => ?_) fun args hs ae hs' e => ?_
  · simp only [execFnDC]
    rw [execDC_eq hE, execDC_eq hE]
    cases execD E fn depth live D args hs <;> rfl
  · simp only [execFnDC] at e
    rw [execDC_eq hE] at e
    exact e

def endRC (base o : Nat) (k : Bool → LHp → Option R) (e : AEx) (s2 : LSt) : Option R :=
  match jmpOf e with
  | some j =>
    (match hget s2.hp o with
    | some (.rc (.loop lc2 fr2 .busy)) => fin base ((o, .rc (.loop lc2 fr2 (staOf j))) :: s2.hp) [] (fun _ h1 => k j.isNone h1)
    | _ => none)
  | none => none
theorem endRC_eq {base o : Nat} (k : Bool → LHp → Option R) (e : AEx) (s : LSt) : endRC base o k e s = (endR base o e s).bind fun p => k p.1 p.2 := by
  unfold endRC endR
  cases jmpOf e with
  | none => rfl
  | some j =>
    simp only
    cases hget s.hp o with
    | none => rfl
    | some ob =>
      cases ob with
      | box v => rfl
      | arr T e m z xs => rfl
      | rc r =>
        cases r with
        | map l => rfl
        | loop lc fr st =>
          cases st with
          | busy => exact fin_eq fun _ _ => rfl
          | _ => rfl

def runRC (E : Env) (live : List (Nat × List Nat)) (o : Nat) (args : List AV) (hs : LHp) (k : Bool → LHp → Option R) : Option R :=
  match hget hs o with
  | some (.rc (.loop lc fr .ready)) =>
    bif below hs.length hs && Nat.beq lc.ps.size args.length && (lc.ps.toList.all (fun t => Nat.blt t lc.n)) && codeIn lc.n lc.assign && codeIn lc.n lc.body && Nat.blt lc.n (2 ^ lc.key) then
      exC E ⟨lc.n, lc.key, hs.length, live, false⟩ lc.assign (setL ⟨mkFr lc.key fr, hs, hs.length⟩ lc.ps.toList args) fun e s1 =>
        match e with
        | .normal =>
          (match hget s1.hp o with
          | some (.rc (.loop lc1 fr1 .ready)) => exC E ⟨lc.n, lc.key, hs.length, live, false⟩ lc.body ⟨s1.fr, (o, .rc (.loop lc1 fr1 .busy)) :: s1.hp, s1.nx⟩ (endRC hs.length o k)
          | _ => none)
        | _ => none
    else none
  | _ => none
theorem runRC_eq {E : Env} (hE : E.Good) {live : List (Nat × List Nat)} {o : Nat} {args : List AV} {hs : LHp} (k : Bool → LHp → Option R) : runRC E live o args hs k = (runR E live o args hs).bind fun p => k p.1 p.2 := by
  unfold runRC runR
  cases hget hs o with
  | none => rfl
  | some ob =>
    cases ob with
    | box v => rfl
    | arr T e m z xs => rfl
    | rc r =>
      cases r with
      | map l => rfl
      | loop lc fr st =>
        cases st with
        | ready =>
          simp only
          cases below hs.length hs && Nat.beq lc.ps.size args.length && (lc.ps.toList.all (fun t => Nat.blt t lc.n)) && codeIn lc.n lc.assign && codeIn lc.n lc.body && Nat.blt lc.n (2 ^ lc.key) with
          | false => rfl
          | true =>
            simp only [cond_true]
            rw [exC_ex hE]
            refine ex_after hE fun e s1 => ?_
            cases e with
            | normal =>
              simp only
              cases hget s1.hp o with
              | none => rfl
              | some ob1 =>
                cases ob1 with
                | box v => rfl
                | arr T e m z xs => rfl
                | rc r1 =>
                  cases r1 with
                  | map l => rfl
                  | loop lc1 fr1 st1 =>
                    cases st1 with
                    | ready =>
                      simp only
                      rw [exC_ex hE]
                      exact ex_after hE fun e s => endRC_eq k e s
                    | _ => rfl
            | exit i => rfl
            | ret => rfl
            | panic t n => rfl
        | _ => rfl
def roundC (E : Env) (live : List (Nat × List Nat)) : RoundE := { run := fun o args hs k => runRC E live o args hs k }
theorem roundC_ok {E : Env} (hE : E.Good) (hmix : E.P.follows .mixedOrders = true) (live : List (Nat × List Nat)) : RoundE.OK E.P E.gam (roundC E live) := by
  have h := roundE_ok hE hmix live
  refine ⟨fun o args hs k => ?_, fun o args hs c hs' e => h.ok o args hs c hs' ?_⟩
  · simp only [roundC]
    rw [runRC_eq hE, runRC_eq hE]
    cases runR E live o args hs <;> rfl
  · simp only [roundC] at e
    rw [runRC_eq hE] at e
    exact e

end Go.Vm
