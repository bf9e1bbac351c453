/- Part WE of the abstract machine: functions with a deferred closure, and loops over functions, with their rest in hand. -/
import Derived.Test.YtnkhoojomojbpaaGreatDoorQ33
namespace Go.Vm
universe u
variable {R : Type}
def KX (E : Env) (D : mE) (rest : Code) (args : List AV) (av : AV) (hs : LHp) (k : LHp -> Option R) : Option R :=
 bif Nat.ble args.length D.gn.ntmps && cF hs.length hs then
  exC E ⟨D.gn.ntmps, D.depth, hs.length, D.live, false⟩ rest ⟨((aw D.depth (number 0 args)).set D.t5 av).set D.t2 av, hs, hs.length⟩ fun e s =>
   match e with
   | .normal => fin hs.length s.hp [] (fun _ h1 => k h1)
   | .ret => fin hs.length s.hp [] (fun _ h1 => k h1)
   | _ => none
 else none
theorem KY {E : Env} (hE : E.Good) {D : mE} {rest : Code} {args : List AV} {av : AV} {hs : LHp} {k : LHp -> Option R} : KX E D rest args av hs k = (Ih E D rest args av hs).bind k := by
 unfold KX Ih
 simp only [Bool.cond_eq_ite]
 split
 ·rw [oA hE]
  refine kZ hE fun e s => ?_
  cases e with
  | normal => exact oB fun _ _ => rfl
  | ret => exact oB fun _ _ => rfl
  | exit i => rfl
  | panic t n => rfl
 ·rfl
def wQ (E : Env) (D : mE) (rest : Code) (base : Nat) (rv : List ResultVar) (caps : List AV) (k : aq -> LHp -> Option R) (e : AEx) (s : LSt) : Option R :=
 match Qp e with
 | none => none
 | some av =>
  let L := ft s.hp db (refsL caps) []
  let σ := jL s.hp L 0
  bif σ.good then
   (match rens σ caps with
   | some args =>
    (match j8 s.hp σ σ with
    | some hs =>
     KX E D rest args av hs fun aF =>
      let nw := dI L.length s.nx aF
      let dc := dU s.hp L 0 ++ nw
      bif dc.good && eR s.hp nw then
       (match j8 aF dc dc with
       | some wr =>
        (match ox E.P ⟨s.fr, wr ++ s.hp, s.nx⟩ rv with
        | some rs => fin base (wr ++ s.hp) rs (fun fO h1 => k (.ret fO) h1)
        | none => none)
       | none => none)
      else none
    | none => none)
   | none => none)
  else none
theorem KZ {E : Env} (hE : E.Good) {D : mE} {rest : Code} {base : Nat} {rv : List ResultVar} {caps : List AV} (k : aq -> LHp -> Option R) (e : AEx) (s : LSt) : wQ E D rest base rv caps k e s = (Qq E D rest base rv caps e s).bind fun p => k p.1 p.2 := by
 unfold wQ Qq
 cases Qp e with
 | none => rfl
 | some av =>
  simp only
  cases (jL s.hp (ft s.hp db (refsL caps) []) 0).good with
  | false => rfl
  | true =>
   simp only [ak]
   cases rens (jL s.hp (ft s.hp db (refsL caps) []) 0) caps with
   | none => rfl
   | some args =>
    simp only
    cases j8 s.hp (jL s.hp (ft s.hp db (refsL caps) []) 0) (jL s.hp (ft s.hp db (refsL caps) []) 0) with
    | none => rfl
    | some hs =>
     simp only
     rw [KY hE]
     cases Ih E D rest args av hs with
     | none => rfl
     | some aF =>
      simp only [aA]
      generalize (dU s.hp (ft s.hp db (refsL caps) []) 0 ++ dI (ft s.hp db (refsL caps) []).length s.nx aF) = dc
      cases Sg.good dc && eR s.hp (dI (ft s.hp db (refsL caps) []).length s.nx aF) with
      | false => rfl
      | true =>
       simp only [ak]
       cases j8 aF dc dc with
       | none => rfl
       | some wr =>
        simp only
        cases ox E.P ⟨s.fr, wr ++ s.hp, s.nx⟩ rv with
        | none => rfl
        | some rs => exact oB fun _ _ => rfl
def tW (E : Env) (fn : Func) (depth : Nat) (live : List (Nat × List Nat)) (D : mE) (args : List AV) (hs : LHp) (k : aq -> LHp -> Option R) : Option R :=
 match fn.body, D.gn.body with
 | some (.seq R0 (.seq _ y)), some (.seq _ rest) =>
  bif Nat.ble args.length fn.ntmps && cF hs.length hs then
   exC E ⟨fn.ntmps, depth, hs.length, live, false⟩ R0 ⟨aw depth (number 0 args), hs, hs.length⟩ fun e0 s0 =>
    match e0 with
    | .normal =>
     let caps := evs E s0 D.caps
     bif caps.all (lZ s0.hp) && cF s0.nx s0.hp then
      exC E ⟨fn.ntmps, depth, s0.nx, live, false⟩ y (s0.set D.t15 (.fn (.func D.g) [] caps)) (wQ E D rest hs.length fn.results.toList caps k)
     else none
    | _ => none
  else none
 | _, _ => none
theorem qu {E : Env} (hE : E.Good) {fn : Func} {depth : Nat} {live : List (Nat × List Nat)} {D : mE} (args : List AV) (hs : LHp) (k : aq -> LHp -> Option R) : tW E fn depth live D args hs k = (wI E fn depth live D args hs).bind fun p => k p.1 p.2 := by
 unfold tW wI
 cases fn.body with
 | none => rfl
 | some c1 =>
  cases c1 with
  | seq R0 z =>
   cases z with
   | seq q y =>
    cases D.gn.body with
    | none => rfl
    | some c2 =>
     cases c2 with
     | seq q2 rest =>
      simp only
      cases Nat.ble args.length fn.ntmps && cF hs.length hs with
      | false => rfl
      | true =>
       simp only [ak]
       rw [oA hE]
       refine kZ hE fun e0 s0 => ?_
       cases e0 with
       | normal =>
        simp only
        cases (evs E s0 D.caps).all (lZ s0.hp) && cF s0.nx s0.hp with
        | false => rfl
        | true =>
         simp only [ak]
         rw [oA hE]
         exact kZ hE fun e s => KZ hE k e s
       | exit i => rfl
       | ret => rfl
       | panic t n => rfl
     | _ => rfl
   | _ => rfl
  | _ => rfl
def pg (E : Env) (fn : Func) (depth : Nat) (live : List (Nat × List Nat)) (D : mE) : FnE := { run := fun args hs k => tW E fn depth live D args hs k }
theorem A6 {E : Env} (hE : E.Good) {f : FuncId} {fn : Func} {depth : Nat} {live : List (Nat × List Nat)} {D : mE} {P : Program} {Γ : Nat -> Option AV} (h : FnE.OK P Γ f (rY E fn depth live D)) : FnE.OK P Γ f (pg E fn depth live D) := by
 refine FnE.OK.of h (fun args hs k => ?_) fun args hs ae aF e => ?_
 ·simp only [pg]
  rw [qu hE, qu hE]
  cases wI E fn depth live D args hs <;> rfl
 ·simp only [pg] at e
  rw [qu hE] at e
  exact e
def K4 (base o : Nat) (k : Bool -> LHp -> Option R) (e : AEx) (s2 : LSt) : Option R :=
 match Fi e with
 | some j =>
  (match az s2.hp o with
  | some (.rc (.loop PE PF .busy)) => fin base ((o, .rc (.loop PE PF (wj j))) :: s2.hp) [] (fun _ h1 => k j.isNone h1)
  | _ => none)
 | none => none
theorem K5 {base o : Nat} (k : Bool -> LHp -> Option R) (e : AEx) (s : LSt) : K4 base o k e s = (Qt base o e s).bind fun p => k p.1 p.2 := by
 unfold K4 Qt
 cases Fi e with
 | none => rfl
 | some j =>
  simp only
  cases az s.hp o with
  | none => rfl
  | some ob =>
   cases ob with
   | box v => rfl
   | arr T e m z xs => rfl
   | rc r =>
    cases r with
    | map l => rfl
    | loop lc fr st =>
     cases st with
     | busy => exact oB fun _ _ => rfl
     | _ => rfl
def K6 (E : Env) (live : List (Nat × List Nat)) (o : Nat) (args : List AV) (hs : LHp) (k : Bool -> LHp -> Option R) : Option R :=
 match az hs o with
 | some (.rc (.loop lc fr .ready)) =>
  bif cF hs.length hs && Nat.beq lc.ps.size args.length && (lc.ps.toList.all (fun t => Nat.blt t lc.n)) && cA lc.n lc.assign && cA lc.n lc.body && Nat.blt lc.n (2 ^ lc.key) then
   exC E ⟨lc.n, lc.key, hs.length, live, false⟩ lc.assign (yh ⟨aw lc.key fr, hs, hs.length⟩ lc.ps.toList args) fun e s1 =>
    match e with
    | .normal =>
     (match az s1.hp o with
     | some (.rc (.loop oQ oR .ready)) => exC E ⟨lc.n, lc.key, hs.length, live, false⟩ lc.body ⟨s1.fr, (o, .rc (.loop oQ oR .busy)) :: s1.hp, s1.nx⟩ (K4 hs.length o k)
     | _ => none)
    | _ => none
  else none
 | _ => none
theorem tX {E : Env} (hE : E.Good) {live : List (Nat × List Nat)} {o : Nat} {args : List AV} {hs : LHp} (k : Bool -> LHp -> Option R) : K6 E live o args hs k = (Ii E live o args hs).bind fun p => k p.1 p.2 := by
 unfold K6 Ii
 cases az hs o with
 | none => rfl
 | some ob =>
  cases ob with
  | box v => rfl
  | arr T e m z xs => rfl
  | rc r =>
   cases r with
   | map l => rfl
   | loop lc fr st =>
    cases st with
    | ready =>
     simp only
     cases cF hs.length hs && Nat.beq lc.ps.size args.length && (lc.ps.toList.all (fun t => Nat.blt t lc.n)) && cA lc.n lc.assign && cA lc.n lc.body && Nat.blt lc.n (2 ^ lc.key) with
     | false => rfl
     | true =>
      simp only [ak]
      rw [oA hE]
      refine kZ hE fun e s1 => ?_
      cases e with
      | normal =>
       simp only
       cases az s1.hp o with
       | none => rfl
       | some nO =>
        cases nO with
        | box v => rfl
        | arr T e m z xs => rfl
        | rc r1 =>
         cases r1 with
         | map l => rfl
         | loop oQ oR st1 =>
          cases st1 with
          | ready =>
           simp only
           rw [oA hE]
           exact kZ hE fun e s => K5 k e s
          | _ => rfl
      | exit i => rfl
      | ret => rfl
      | panic t n => rfl
    | _ => rfl
def qv (E : Env) (live : List (Nat × List Nat)) : eu := { run := fun o args hs k => K6 E live o args hs k }
theorem qw {E : Env} (hE : E.Good) (bX : E.P.follows .mixedOrders = true) (live : List (Nat × List Nat)) : eu.OK E.P E.gam (qv E live) := by
 have h := Ij hE bX live
 refine ⟨fun o args hs k => ?_, fun o args hs c aF e => h.ok o args hs c aF ?_⟩
 ·simp only [qv]
  rw [tX hE, tX hE]
  cases Ii E live o args hs <;> rfl
 ·simp only [qv] at e
  rw [tX hE] at e
  exact e
end Go.Vm
