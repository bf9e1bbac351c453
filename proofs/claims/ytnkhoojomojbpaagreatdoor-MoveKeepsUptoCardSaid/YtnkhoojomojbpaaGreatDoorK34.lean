/- Part WE of the abstract machine: functions with a deferred closure, and loops over functions, with their rest in hand. -/
import Derived.Test.YtnkhoojomojbpaaGreatDoorK33
namespace Go.Vm
universe u
variable {R : Type}
def KR (E : Env) (D : lU) (rest : Code) (args : List AV) (av : AV) (hs : LHp) (k : LHp -> Option R) : Option R :=
 bif Nat.ble args.length D.gn.ntmps && cj hs.length hs then
  exC E ⟨D.gn.ntmps, D.depth, hs.length, D.live, false⟩ rest ⟨((aw D.depth (number 0 args)).set D.t5 av).set D.t2 av, hs, hs.length⟩ fun e s =>
   match e with
   | .normal => fin hs.length s.hp [] (fun _ h1 => k h1)
   | .ret => fin hs.length s.hp [] (fun _ h1 => k h1)
   | _ => none
 else none
theorem KS {E : Env} (hE : E.Good) {D : lU} {rest : Code} {args : List AV} {av : AV} {hs : LHp} {k : LHp -> Option R} : KR E D rest args av hs k = (H6 E D rest args av hs).bind k := by
 unfold KR H6
 simp only [Bool.cond_eq_ite]
 split
 ·rw [nM hE]
  refine kx hE fun e s => ?_
  cases e with
  | normal => exact nN fun _ _ => rfl
  | ret => exact nN fun _ _ => rfl
  | exit i => rfl
  | panic t n => rfl
 ·rfl
def vV (E : Env) (D : lU) (rest : Code) (base : Nat) (rv : List ResultVar) (caps : List AV) (k : aq -> LHp -> Option R) (e : AEx) (s : LSt) : Option R :=
 match Qu e with
 | none => none
 | some av =>
  let L := fb s.hp cF (refsL caps) []
  let σ := ju s.hp L 0
  bif σ.good then
   (match rens σ caps with
   | some args =>
    (match jO s.hp σ σ with
    | some hs =>
     KR E D rest args av hs fun aH =>
      let nw := dk L.length s.nx aH
      let cI := dF s.hp L 0 ++ nw
      bif cI.good && dY s.hp nw then
       (match jO aH cI cI with
       | some wr =>
        (match nK E.P ⟨s.fr, wr ++ s.hp, s.nx⟩ rv with
        | some rs => fin base (wr ++ s.hp) rs (fun fQ h1 => k (.ret fQ) h1)
        | none => none)
       | none => none)
      else none
    | none => none)
   | none => none)
  else none
theorem KT {E : Env} (hE : E.Good) {D : lU} {rest : Code} {base : Nat} {rv : List ResultVar} {caps : List AV} (k : aq -> LHp -> Option R) (e : AEx) (s : LSt) : vV E D rest base rv caps k e s = (Qv E D rest base rv caps e s).bind fun p => k p.1 p.2 := by
 unfold vV Qv
 cases Qu e with
 | none => rfl
 | some av =>
  simp only
  cases (ju s.hp (fb s.hp cF (refsL caps) []) 0).good with
  | false => rfl
  | true =>
   simp only [ai]
   cases rens (ju s.hp (fb s.hp cF (refsL caps) []) 0) caps with
   | none => rfl
   | some args =>
    simp only
    cases jO s.hp (ju s.hp (fb s.hp cF (refsL caps) []) 0) (ju s.hp (fb s.hp cF (refsL caps) []) 0) with
    | none => rfl
    | some hs =>
     simp only
     rw [KS hE]
     cases H6 E D rest args av hs with
     | none => rfl
     | some aH =>
      simp only [aB]
      generalize (dF s.hp (fb s.hp cF (refsL caps) []) 0 ++ dk (fb s.hp cF (refsL caps) []).length s.nx aH) = cI
      cases Sg.good cI && dY s.hp (dk (fb s.hp cF (refsL caps) []).length s.nx aH) with
      | false => rfl
      | true =>
       simp only [ai]
       cases jO aH cI cI with
       | none => rfl
       | some wr =>
        simp only
        cases nK E.P ⟨s.fr, wr ++ s.hp, s.nx⟩ rv with
        | none => rfl
        | some rs => exact nN fun _ _ => rfl
def sZ (E : Env) (fn : Func) (depth : Nat) (live : List (Nat × List Nat)) (D : lU) (args : List AV) (hs : LHp) (k : aq -> LHp -> Option R) : Option R :=
 match fn.body, D.gn.body with
 | some (.seq R0 (.seq _ y)), some (.seq _ rest) =>
  bif Nat.ble args.length fn.ntmps && cj hs.length hs then
   exC E ⟨fn.ntmps, depth, hs.length, live, false⟩ R0 ⟨aw depth (number 0 args), hs, hs.length⟩ fun e0 s0 =>
    match e0 with
    | .normal =>
     let caps := evs E s0 D.caps
     bif caps.all (lu s0.hp) && cj s0.nx s0.hp then
      exC E ⟨fn.ntmps, depth, s0.nx, live, false⟩ y (s0.set D.t15 (.fn (.func D.g) [] caps)) (vV E D rest hs.length fn.results.toList caps k)
     else none
    | _ => none
  else none
 | _, _ => none
theorem pR {E : Env} (hE : E.Good) {fn : Func} {depth : Nat} {live : List (Nat × List Nat)} {D : lU} (args : List AV) (hs : LHp) (k : aq -> LHp -> Option R) : sZ E fn depth live D args hs k = (vN E fn depth live D args hs).bind fun p => k p.1 p.2 := by
 unfold sZ vN
 cases fn.body with
 | none => rfl
 | some c1 =>
  cases c1 with
  | seq R0 z =>
   cases z with
   | seq q y =>
    cases D.gn.body with
    | none => rfl
    | some c2 =>
     cases c2 with
     | seq q2 rest =>
      simp only
      cases Nat.ble args.length fn.ntmps && cj hs.length hs with
      | false => rfl
      | true =>
       simp only [ai]
       rw [nM hE]
       refine kx hE fun e0 s0 => ?_
       cases e0 with
       | normal =>
        simp only
        cases (evs E s0 D.caps).all (lu s0.hp) && cj s0.nx s0.hp with
        | false => rfl
        | true =>
         simp only [ai]
         rw [nM hE]
         exact kx hE fun e s => KT hE k e s
       | exit i => rfl
       | ret => rfl
       | panic t n => rfl
     | _ => rfl
   | _ => rfl
  | _ => rfl
def oD (E : Env) (fn : Func) (depth : Nat) (live : List (Nat × List Nat)) (D : lU) : FnE := { run := fun args hs k => sZ E fn depth live D args hs k }
theorem AM {E : Env} (hE : E.Good) {f : FuncId} {fn : Func} {depth : Nat} {live : List (Nat × List Nat)} {D : lU} {P : Program} {Γ : Nat -> Option AV} (h : FnE.OK P Γ f (rj E fn depth live D)) : FnE.OK P Γ f (oD E fn depth live D) := by
 refine FnE.OK.of h (fun args hs k => ?_) fun args hs ae aH e => ?_
 ·simp only [oD]
  rw [pR hE, pR hE]
  cases vN E fn depth live D args hs <;> rfl
 ·simp only [oD] at e
  rw [pR hE] at e
  exact e
def KU (base o : Nat) (k : Bool -> LHp -> Option R) (e : AEx) (s2 : LSt) : Option R :=
 match E8 e with
 | some j =>
  (match aA s2.hp o with
  | some (.rc (.loop PE PF .busy)) => fin base ((o, .rc (.loop PE PF (vt j))) :: s2.hp) [] (fun _ h1 => k j.isNone h1)
  | _ => none)
 | none => none
theorem KV {base o : Nat} (k : Bool -> LHp -> Option R) (e : AEx) (s : LSt) : KU base o k e s = (Qx base o e s).bind fun p => k p.1 p.2 := by
 unfold KU Qx
 cases E8 e with
 | none => rfl
 | some j =>
  simp only
  cases aA s.hp o with
  | none => rfl
  | some ob =>
   cases ob with
   | box v => rfl
   | arr T e m z xs => rfl
   | rc r =>
    cases r with
    | map l => rfl
    | loop lc fr st =>
     cases st with
     | busy => exact nN fun _ _ => rfl
     | _ => rfl
def KW (E : Env) (live : List (Nat × List Nat)) (o : Nat) (args : List AV) (hs : LHp) (k : Bool -> LHp -> Option R) : Option R :=
 match aA hs o with
 | some (.rc (.loop lc fr .ready)) =>
  bif cj hs.length hs && Nat.beq lc.ps.size args.length && (lc.ps.toList.all (fun t => Nat.blt t lc.n)) && b7 lc.n lc.assign && b7 lc.n lc.body && Nat.blt lc.n (2 ^ lc.key) then
   exC E ⟨lc.n, lc.key, hs.length, live, false⟩ lc.assign (xD ⟨aw lc.key fr, hs, hs.length⟩ lc.ps.toList args) fun e s1 =>
    match e with
    | .normal =>
     (match aA s1.hp o with
     | some (.rc (.loop n1 n2 .ready)) => exC E ⟨lc.n, lc.key, hs.length, live, false⟩ lc.body ⟨s1.fr, (o, .rc (.loop n1 n2 .busy)) :: s1.hp, s1.nx⟩ (KU hs.length o k)
     | _ => none)
    | _ => none
  else none
 | _ => none
theorem s7 {E : Env} (hE : E.Good) {live : List (Nat × List Nat)} {o : Nat} {args : List AV} {hs : LHp} (k : Bool -> LHp -> Option R) : KW E live o args hs k = (H7 E live o args hs).bind fun p => k p.1 p.2 := by
 unfold KW H7
 cases aA hs o with
 | none => rfl
 | some ob =>
  cases ob with
  | box v => rfl
  | arr T e m z xs => rfl
  | rc r =>
   cases r with
   | map l => rfl
   | loop lc fr st =>
    cases st with
    | ready =>
     simp only
     cases cj hs.length hs && Nat.beq lc.ps.size args.length && (lc.ps.toList.all (fun t => Nat.blt t lc.n)) && b7 lc.n lc.assign && b7 lc.n lc.body && Nat.blt lc.n (2 ^ lc.key) with
     | false => rfl
     | true =>
      simp only [ai]
      rw [nM hE]
      refine kx hE fun e s1 => ?_
      cases e with
      | normal =>
       simp only
       cases aA s1.hp o with
       | none => rfl
       | some na =>
        cases na with
        | box v => rfl
        | arr T e m z xs => rfl
        | rc r1 =>
         cases r1 with
         | map l => rfl
         | loop n1 n2 st1 =>
          cases st1 with
          | ready =>
           simp only
           rw [nM hE]
           exact kx hE fun e s => KV k e s
          | _ => rfl
      | exit i => rfl
      | ret => rfl
      | panic t n => rfl
    | _ => rfl
def s8 (E : Env) (live : List (Nat × List Nat)) : dV := { run := fun o args hs k => KW E live o args hs k }
theorem vW {E : Env} (hE : E.Good) (bO : E.P.follows .mixedOrders = true) (live : List (Nat × List Nat)) : dV.OK E.P E.gam (s8 E live) := by
 have h := H8 hE bO live
 refine ⟨fun o args hs k => ?_, fun o args hs c aH e => h.ok o args hs c aH ?_⟩
 ·simp only [s8]
  rw [s7 hE, s7 hE]
  cases H7 E live o args hs <;> rfl
 ·simp only [s8] at e
  rw [s7 hE] at e
  exact e
end Go.Vm
