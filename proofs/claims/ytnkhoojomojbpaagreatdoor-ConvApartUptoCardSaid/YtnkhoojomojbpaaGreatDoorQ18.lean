/- Part P of the abstract machine: the executor's calls; a state seen anew; the end of a function. -/
import Derived.Test.YtnkhoojomojbpaaGreatDoorQ17
namespace Go.Vm
variable {R : Type}
mutual
def AV.refs : AV -> List Nat
  | .op o _ _ => [o]
  | .os o _ => [o]
  | .oe o _ _ => [o]
  | .ow o _ _ _ => [o]
  | .pr a b => a.refs ++ b.refs
  | .fn _ first cap => refsL first ++ refsL cap
  | .iface _ v => v.refs
  | .tup l => refsL l
  | .ref o => [o]
  | _ => []
def refsL : List AV -> List Nat
  | [] => []
  | a :: l => a.refs ++ refsL l
end
def V3 : List (aj × AV) -> List Nat
 | [] => []
 | (_, a) :: l => a.refs ++ V3 l
def V4 : List (Nat × AV) -> List Nat
 | [] => []
 | (_, a) :: l => a.refs ++ V4 l
def gy.refs : gy -> List Nat
 | .map l => V3 l
 | .loop _ fr _ => V4 fr
def ft (hp : LHp) : Nat -> List Nat -> List Nat -> List Nat
 | 0, _, seen => seen
 | _ + 1, [], seen => seen
 | n + 1, o :: todo, seen =>
  bif seen.any (Nat.beq o) then ft hp n todo seen else
   match az hp o with
   | some (.box v) => ft hp n (v.refs ++ todo) (o :: seen)
   | some (.arr _ _ _ _ _) => ft hp n todo (o :: seen)
   | some (.rc r) => ft hp n (r.refs ++ todo) (o :: seen)
   | none => ft hp n todo seen
def AF (hp : LHp) (o : Nat) : fI := match az hp o with | some (.arr _ _ m _ _) => .reset m | _ => .keep
def xZ (hp : LHp) (o : Nat) : fI := match az hp o with | some (.arr _ _ m _ _) => .shift m | _ => .keep
def j8 (hp : LHp) (σ : Sg) : Sg -> Option LHp
 | [] => some []
 | (o, o', φ) :: r =>
  match az hp o with
  | some ob => (match ob.ren σ φ with | some cx => (match j8 hp σ r with | some l => some ((o', cx) :: l) | none => none) | none => none)
  | none => none
theorem wG {hp : LHp} {σ : Sg} {o o' : Nat} {φ : fI} {r : Sg} {l : LHp} (h : j8 hp σ ((o, o', φ) :: r) = some l) : ∃ ob cx l', az hp o = some ob /\ ob.ren σ φ = some cx /\ j8 hp σ r = some l' /\ l = (o', cx) :: l' := by
 simp only [j8] at h
 split at h
 ·rename_i ob ef
  split at h
  ·rename_i cx hob'
   split at h
   ·rename_i l' vp
    cases h
    exact ⟨ob, cx, l', ef, hob', vp, rfl⟩
   ·cases h
  ·cases h
 ·cases h
theorem Sg.inv_of_get' : ∀ {σ : Sg} {o o' : Nat} {φ : fI}, σ.get o = some (o', φ) -> ∃ p, σ.inv o' = some p
 | [], _, _, _, h => by cases h
 | (a, b, ψ) :: r, o, o', φ, h => by
  simp only [Sg.get] at h
  simp only [Sg.inv]
  cases hb : Nat.beq o' b with
  | true => exact ⟨a, rfl⟩
  | false =>
   cases ha : Nat.beq o a with
   | true => rw [ha] at h; cases h; rw [Nat.beq_refl] at hb; cases hb
   | false => rw [ha] at h; exact Sg.inv_of_get' h
theorem jK {hp : LHp} {σ : Sg} : ∀ {σ0 : Sg} {l : LHp}, j8 hp σ σ0 = some l -> σ0.good = true -> ∀ {o o' : Nat} {φ : fI}, σ0.get o = some (o', φ) -> ∃ ob cx, az hp o = some ob /\ ob.ren σ φ = some cx /\ az l o' = some cx
 | [], _, _, _, _, _, _, h => by cases h
 | (a, b, ψ) :: r, l, h, hg, o, o', φ, hget' => by
  obtain ⟨ob, cx, l', h1, h2, h3, rfl⟩ := wG h
  simp only [Sg.good, bg] at hg
  obtain ⟨⟨g1, g2⟩, g3⟩ := hg
  simp only [Sg.get] at hget'
  cases ha : Nat.beq o a with
  | true =>
   rw [ha] at hget'
   cases hget'
   rw [bo ha]
   exact ⟨ob, cx, h1, h2, by simp [az]⟩
  | false =>
   rw [ha] at hget'
   obtain ⟨o1, o2, k1, k2, k3⟩ := jK h3 g3 hget'
   refine ⟨o1, o2, k1, k2, ?_⟩
   simp only [az]
   cases hb : Nat.beq b o' with
   | false => exact k3
   | true =>
    obtain ⟨p, bq⟩ := Sg.inv_of_get' hget'
    rw [bo hb, bq] at g2; cases g2
theorem nh {hp : LHp} {σ : Sg} : ∀ {σ0 : Sg} {l : LHp}, j8 hp σ σ0 = some l -> ∀ {o' : Nat}, σ0.inv o' = none -> az l o' = none
 | [], l, h, o', _ => by cases h; rfl
 | (a, b, ψ) :: r, l, h, o', hi => by
  obtain ⟨ob, cx, l', h1, h2, h3, rfl⟩ := wG h
  simp only [Sg.inv] at hi
  cases hb : Nat.beq o' b with
  | true => rw [hb] at hi; cases hi
  | false =>
   rw [hb] at hi
   have lC : Nat.beq b o' = false := by
    have := iU hb
    rw [← Bool.not_eq_true]; intro h; exact this (bo h).symm
   simp only [az, lC, ax]
   exact nh h3 hi
theorem tv : ∀ {l : LHp} {o : Nat}, o ∈ l.map (·.1) -> ∃ ob, az l o = some ob
 | [], _, h => by cases h
 | (a, ob) :: r, o, h => by
  simp only [az]
  cases hb : Nat.beq a o with
  | true => exact ⟨ob, rfl⟩
  | false =>
   simp only [List.map_cons, List.mem_cons] at h
   rcases h with rfl | h
   ·rw [Nat.beq_refl] at hb; cases hb
   ·exact tv h
theorem kW : ∀ {l : LHp} {o : Nat} {ob : al}, az l o = some ob -> o ∈ l.map (·.1)
 | [], _, _, h => by cases h
 | (a, cx) :: r, o, ob, h => by
  simp only [az] at h
  cases hb : Nat.beq a o with
  | true => rw [bo hb]; simp
  | false => rw [hb] at h; simp [kW h]
theorem nT {hp : Hp} {wr : LHp} {o : Nat} {ob : al} (h : az wr o = some ob) : aG hp wr o = some ob := by
 rw [qj] at h
 unfold aG
 split at h
 ·rename_i p bq; rw [bq]; exact h
 ·cases h
theorem ia {hp h0 : LHp} {σ : Sg} (hg : σ.good = true) (h : j8 hp σ σ = some h0) : cN σ (az hp) (az h0) :=
 ⟨hg, fun o o' φ hh => by
  obtain ⟨ob, cx, h1, h2, h3⟩ := jK h hg hh
  exact ⟨ob, cx, h1, h2, h3⟩, fun o' hi => nh h hi⟩
def jL (hp : LHp) : List Nat -> Nat -> Sg
 | [], _ => []
 | o :: l, i => (o, i, AF hp o) :: jL hp l (i + 1)
def dU (hp : LHp) : List Nat -> Nat -> Sg
 | [], _ => []
 | o :: l, i => (i, o, xZ hp o) :: dU hp l (i + 1)
def dI (k nx : Nat) : LHp -> Sg
 | [] => []
 | (j, _) :: r => bif Nat.blt j k then dI k nx r else (j, nx + (j - k), .keep) :: dI k nx r
def eR (hp : LHp) : Sg -> Bool
 | [] => true
 | (_, o, _) :: r => (match az hp o with | none => true | some _ => false) && eR hp r
theorem tw (hp : LHp) : ∀ (L : List Nat) (i : Nat) (o o' : Nat) (φ : fI), (jL hp L i).get o = some (o', φ) -> i <= o' /\ (dU hp L i).get o' = some (o, xZ hp o) /\ φ = AF hp o
 | [], _, _, _, _, h => by cases h
 | a :: L, i, o, o', φ, h => by
  simp only [jL, Sg.get] at h
  cases hb : Nat.beq o a with
  | true =>
   rw [hb] at h
   cases h
   have := bo hb
   subst this
   exact ⟨Nat.le_refl _, by simp [dU, Sg.get], rfl⟩
  | false =>
   rw [hb] at h
   obtain ⟨h1, h2, h3⟩ := tw hp L (i + 1) o o' φ h
   refine ⟨by omega, ?_, h3⟩
   simp only [dU, Sg.get]
   have : Nat.beq o' i = false := by rw [← Bool.not_eq_true]; intro h; have := bo h; omega
   rw [this]; exact h2
theorem tz (hp : LHp) : ∀ (L : List Nat) (i : Nat) (o o' : Nat) (φ : fI), (dU hp L i).get o' = some (o, φ) -> (jL hp L i).inv o' = some o
 | [], _, _, _, _, h => by cases h
 | a :: L, i, o, o', φ, h => by
  simp only [dU, Sg.get] at h
  simp only [jL, Sg.inv]
  cases hb : Nat.beq o' i with
  | true => rw [hb] at h; cases h; rfl
  | false => rw [hb] at h; exact tz hp L (i + 1) o o' φ h
theorem tA (hp : LHp) : ∀ (L : List Nat) (i : Nat) (o' : Nat), i + L.length <= o' -> (jL hp L i).inv o' = none
 | [], _, _, _ => rfl
 | a :: L, i, o', h => by
  simp only [List.length_cons] at h
  simp only [jL, Sg.inv]
  have : Nat.beq o' i = false := by rw [← Bool.not_eq_true]; intro h; have := bo h; omega
  rw [this]; exact tA hp L (i + 1) o' (by omega)
theorem Sg.get_append : ∀ (a b : Sg) (o : Nat), (a ++ b : Sg).get o = (match a.get o with | some x => some x | none => b.get o)
 | [], _, _ => rfl
 | (x, y) :: a, b, o => by
  simp only [List.cons_append, Sg.get]
  cases Nat.beq o x with
  | true => rfl
  | false => exact Sg.get_append a b o
theorem ni (k nx : Nat) : ∀ (l : LHp) (j o : Nat) (φ : fI), (dI k nx l).get j = some (o, φ) -> k <= j
 | [], _, _, _, h => by cases h
 | (a, ob) :: r, j, o, φ, h => by
  simp only [dI] at h
  cases hb : Nat.blt a k with
  | true => rw [hb] at h; exact ni k nx r j o φ h
  | false =>
   rw [hb] at h
   simp only [ax, Sg.get] at h
   cases hc : Nat.beq j a with
   | true =>
    have h1 := bo hc
    subst h1
    rcases Nat.lt_or_ge j k with h2 | h2
    ·have : Nat.blt j k = true := Nat.ble_eq_true_of_le h2
     rw [this] at hb; cases hb
    ·exact h2
   | false => rw [hc] at h; exact ni k nx r j o φ h
theorem mz {hp : LHp} : ∀ {σ : Sg}, eR hp σ = true -> ∀ {j o : Nat} {φ : fI}, σ.get j = some (o, φ) -> az hp o = none
 | [], _, _, _, _, h => by cases h
 | (a, b, ψ) :: r, hf, j, o, φ, h => by
  simp only [eR, bg] at hf
  simp only [Sg.get] at h
  cases hb : Nat.beq j a with
  | true =>
   rw [hb] at h; cases h
   cases hh : az hp b with
   | none => rfl
   | some ob => rw [hh] at hf; cases hf.1
  | false => rw [hb] at h; exact mz hf.2 h
theorem AG {hp : LHp} {o m v : Nat} (h : (AF hp o).app m = some v) : (xZ hp o).app v = some m := by
 unfold AF at h
 unfold xZ
 cases hh : az hp o with
 | none => rw [hh] at h; cases h; rfl
 | some ob =>
  cases ob with
  | box u => rw [hh] at h; cases h; rfl
  | rc u => rw [hh] at h; cases h; rfl
  | arr T e k z xs =>
   rw [hh] at h
   simp only [fI.app] at h ⊢
   cases hb : Nat.beq m k with
   | false => rw [hb] at h; cases h
   | true =>
    rw [hb] at h; cases h
    rw [bo hb]; rfl
structure FnE.OK (P : Program) (Γ : Nat -> Option AV) (f : FuncId) (g : FnE) : Prop where
 eq : ∀ {R : Type} (args : List AV) (hs : LHp) (k : aq -> LHp -> Option R), g.run args hs k = (g.run args hs fun a h => some (a, h)).bind fun p => k p.1 p.2
 ok : ∀ (args : List AV) (hs : LHp) (ae : aq) (aF : LHp), g.run args hs (fun a h => some (a, h)) = some (ae, aF) -> FnH P Γ f args (az hs) (fun mc h1 => mc = ae /\ h1 = az aF)
theorem FnE.OK.nat {P : Program} {Γ : Nat -> Option AV} {f : FuncId} {g : FnE} (h : FnE.OK P Γ f g) {R : Type} (args : List AV) (hs : LHp) (k : aq -> LHp -> Option R) (r : R) (e : g.run args hs k = some r) : ∃ ae aF, g.run args hs (fun a h => some (a, h)) = some (ae, aF) /\ k ae aF = some r := by
 rw [h.eq] at e
 obtain ⟨p, h1, h2⟩ := aS e
 exact ⟨p.1, p.2, h1, h2⟩
structure lI.OK (P : Program) (f : FuncId) (g : lI) : Prop where
 eq : ∀ {R : Type} (args : List AV) (k : AV -> Option R), g.run args k = (g.run args some).bind k
 ok : ∀ {R : Type} (args : List AV) (k : AV -> Option R) (r : R), g.run args k = some r -> ∃ av, k av = some r /\
  ∀ (w : World) (im : Nat -> Prop) (μ : Mu) (hp : Hp) (vals : List Value), vals.length = args.length -> (∀ (i : Nat) (a : AV) (v : Value), args[i]? = some a -> vals[i]? = some v -> bC w im μ hp a v) ->
   ∃ v w', (callFunc f vals.toArray).run P w = .ok (.value v) w' /\ w'.heap = w.heap /\ w'.os = w.os /\ w'.tape = w.tape /\ w'.output = w.output /\ bC w im μ hp av v
structure eu.OK (P : Program) (Γ : Nat -> Option AV) (g : eu) : Prop where
 eq : ∀ {R : Type} (o : Nat) (args : List AV) (hs : LHp) (k : Bool -> LHp -> Option R), g.run o args hs k = (g.run o args hs fun a h => some (a, h)).bind fun p => k p.1 p.2
 ok : ∀ (o : Nat) (args : List AV) (hs : LHp) (c : Bool) (aF : LHp), g.run o args hs (fun a h => some (a, h)) = some (c, aF) -> DG P Γ o args (az hs) (fun c' h1 => c' = c /\ h1 = az aF)
theorem eu.OK.nat {P : Program} {Γ : Nat -> Option AV} {g : eu} (h : eu.OK P Γ g) {R : Type} (o : Nat) (args : List AV) (hs : LHp) (k : Bool -> LHp -> Option R) (r : R) (e : g.run o args hs k = some r) : ∃ c aF, g.run o args hs (fun a h => some (a, h)) = some (c, aF) /\ k c aF = some r := by
 rw [h.eq] at e
 obtain ⟨p, h1, h2⟩ := aS e
 exact ⟨p.1, p.2, h1, h2⟩
structure Env.Good (E : Env) : Prop extends Env.OK E where
 gf : ∀ g v, E.gam g = some v -> v.free = true
 calls : ∀ p ∈ E.calls, FnE.OK E.P E.gam p.1 p.2
 exts : ∀ p ∈ E.exts, lI.OK E.P p.1 p.2
 round : ∀ g, E.round = some g -> eu.OK E.P E.gam g
def db : Nat := 1000000
def mA (g : FnE) (args : List AV) (s : LSt) (k : E1 -> Option R) (kp : TypeId -> Int -> LHp -> Option R) : Option R :=
 let L := ft s.hp db (refsL args) []
 let σ := jL s.hp L 0
 bif σ.good then
  (match rens σ args with
  | some args' =>
   (match j8 s.hp σ σ with
   | some hs => g.run args' hs fun ae aF =>
    let nw := dI L.length s.nx aF
    let dc := dU s.hp L 0 ++ nw
    bif dc.good && eR s.hp nw then
     (match j8 aF dc dc with
     | some wr =>
      (match ae with
      | .ret rs => (match rens dc rs with | some fO => k ⟨sU fO, [], wr, s.nx + aF.length⟩ | none => none)
      | .panic t n => kp t n wr)
     | none => none)
    else none
   | none => none)
  | none => none)
 else none
theorem x4 {hp : LHp} {L : List Nat} {nx : Nat} {aF wr : LHp} (hc : (dU hp L 0 ++ dI L.length nx aF : Sg).good = true) (hf : eR hp (dI L.length nx aF) = true)
  (vm : j8 aF (dU hp L 0 ++ dI L.length nx aF) (dU hp L 0 ++ dI L.length nx aF) = some wr) :
  oW (jL hp L 0) (dU hp L 0 ++ dI L.length nx aF) (az hp) (az aF) wr := by
 refine ⟨hc, ?_, ?_, ?_, ?_⟩
 ·intro o' o φ hh
  obtain ⟨ob, cx, h1, h2, h3⟩ := jK vm hc hh
  exact ⟨ob, cx, h1, h2, nT h3⟩
 ·intro o o' φ hh
  obtain ⟨_, h2, h3⟩ := tw hp L 0 o o' φ hh
  refine ⟨_, by rw [Sg.get_append, h2], fun m v hm => AG (by rw [← h3]; exact hm)⟩
 ·intro o' o φ hh
  rw [Sg.get_append] at hh
  cases h1 : (dU hp L 0).get o' with
  | some p =>
   rw [h1] at hh
   cases hh
   exact .inl (tz hp L 0 o o' φ h1)
  | none =>
   rw [h1] at hh
   have := ni _ _ _ _ _ _ hh
   exact .inr ⟨tA hp L 0 o' (by omega), mz hf hh⟩
 ·intro o hm
  obtain ⟨ob, ef⟩ := tv hm
  cases hi : (dU hp L 0 ++ dI L.length nx aF : Sg).inv o with
  | none => rw [nh vm hi] at ef; cases ef
  | some o' =>
   obtain ⟨φ, hφ⟩ := Sg.get_of_inv hc hi
   exact ⟨o', φ, hφ⟩
theorem tB {P : Program} {Γ : Nat -> Option AV} {f : FuncId} {g : FnE} {args : List AV} {s : LSt} {k : E1 -> Option R} {kp : TypeId -> Int -> LHp -> Option R} {r : R} (hg : FnE.OK P Γ f g) (h : mA g args s k kp = some r) :
  ∃ σ dc args' hs ae aF wr, rens σ args = some args' /\ cN σ (az s.hp) (az hs) /\ FnH P Γ f args' (az hs) (fun mc h1 => mc = ae /\ h1 = az aF) /\ oW σ dc (az s.hp) (az aF) wr /\ (∀ o' o φ, dc.get o' = some (o, φ) -> o ∈ wr.map (·.1)) /\
   ((∃ rs fO, ae = .ret rs /\ rens dc rs = some fO /\ k ⟨sU fO, [], wr, s.nx + aF.length⟩ = some r) \/ (∃ t n, ae = .panic t n /\ kp t n wr = some r)) := by
 unfold mA at h
 generalize hL : ft s.hp db (refsL args) [] = L at h
 simp only at h
 cases hgood : (jL s.hp L 0).good with
 | false => rw [hgood] at h; cases h
 | true =>
  rw [hgood] at h
  simp only [ak] at h
  split at h
  ·rename_i args' hargs
   split at h
   ·rename_i hs hhs
    obtain ⟨ae, aF, hrun, hk⟩ := hg.nat _ _ _ _ h
    have hF := hg.ok _ _ _ _ hrun
    cases hc : (dU s.hp L 0 ++ dI L.length s.nx aF : Sg).good && eR s.hp (dI L.length s.nx aF) with
    | false => rw [hc] at hk; cases hk
    | true =>
     rw [hc] at hk
     simp only [bg] at hc
     simp only [ak] at hk
     split at hk
     ·rename_i wr vm
      refine ⟨_, _, args', hs, ae, aF, wr, hargs, ia hgood hhs, hF, x4 hc.1 hc.2 vm, (fun o' o φ hh => by
       obtain ⟨ob, cx, h1, h2, h3⟩ := jK vm hc.1 hh
       exact kW h3), ?_⟩
      cases ae with
      | ret rs =>
       simp only at hk
       split at hk
       ·rename_i fO rS
        exact .inl ⟨rs, fO, rfl, rS, hk⟩
       ·cases hk
      | panic t n => exact .inr ⟨t, n, rfl, hk⟩
     ·cases hk
   ·cases h
  ·cases h
def nj (g : eu) (q : Nat) (args : List AV) (s : LSt) (k : E1 -> Option R) : Option R :=
 match az s.hp q with
 | some (.rc r0) =>
  bif r0.isMap then none else
  let L := ft s.hp db (refsL (.ref q :: args)) []
  let σ := jL s.hp L 0
  bif σ.good then
   (match rens σ (.ref q :: args) with
   | some (.ref o' :: args') =>
    (match j8 s.hp σ σ with
    | some hs => g.run o' args' hs fun c aF =>
     let nw := dI L.length s.nx aF
     let dc := dU s.hp L 0 ++ nw
     bif dc.good && eR s.hp nw then
      (match j8 aF dc dc with
      | some wr => k ⟨.d .bool c, [], wr, s.nx + aF.length⟩
      | none => none)
     else none
    | none => none)
   | _ => none)
  else none
 | _ => none
theorem DV {E : Env} {C : Ctx} {s : LSt} {k : E1 -> Option R} {r : R} (hE : E.Good) (bG : C.Γ = E.gam) {o : Oper} {x : Operand} {xs : Array Operand} {at' : Array TypeId} {q : Nat} {g : eu} (ho : o.op = .call ⟨.value x, xs, at'⟩)
  (hx : s.ev E x = .ref q) (hg : eu.OK E.P E.gam g) (h : nj g q (evs E s xs.toList) s k = some r) : dV E C o s k r := by
 unfold nj at h
 split at h
 ·rename_i r0 hq
  cases hm : r0.isMap with
  | true => rw [hm] at h; cases h
  | false =>
   rw [hm] at h
   simp only [ax] at h
   generalize hL : ft s.hp db (refsL (.ref q :: evs E s xs.toList)) [] = L at h
   cases hgood : (jL s.hp L 0).good with
   | false => rw [hgood] at h; cases h
   | true =>
    rw [hgood] at h
    simp only [ak] at h
    split at h
    ·rename_i o' args' hargs
     split at h
     ·rename_i hs hhs
      obtain ⟨c, aF, hrun, hk⟩ := hg.nat _ _ _ _ _ h
      have hF := hg.ok _ _ _ _ _ hrun
      cases hc : (dU s.hp L 0 ++ dI L.length s.nx aF : Sg).good && eR s.hp (dI L.length s.nx aF) with
      | false => rw [hc] at hk; cases hk
      | true =>
       rw [hc] at hk
       simp only [bg] at hc
       simp only [ak] at hk
       split at hk
       ·rename_i wr vm
        have hGF : fc C := fun gg v hv => hE.gf gg v (by rw [← bG]; exact hv)
        have ea : rens (jL s.hp L 0) (.ref q :: xs.toList.map (s.toA.ev C)) = some (.ref o' :: args') := by rw [lJ bG]; exact hargs
        rw [← bG] at hF
        exact ⟨_, hk, HQ ho hGF ((bN bG s x).trans hx) hq hm ea (ia hgood hhs) hF (x4 hc.1 hc.2 vm) (fun o' o φ hh => by
         obtain ⟨ob, cx, h1, h2, h3⟩ := jK vm hc.1 hh
         exact kW h3)⟩
       ·cases hk
     ·cases h
    ·cases h
 ·cases h
def AH (E : Env) (C : Ctx) (o : Oper) (s : LSt) (t : TypeId) (n : Int) (wr : LHp) : Prop :=
 ∀ s1 : ASt, (∀ x ∈ o.op.operands.toList, s1.ev C x = s.toA.ev C x) -> (∀ k, k ∈ wr.map (·.1) -> s1.hp k = az s.hp k) -> ∀ a w, Rel C s1 a w -> (∀ d, o.dst = some d -> d < C.n) -> ∀ (K : Act -> World -> Prop) (Q : Exit -> Act -> World -> Prop), (∀ a' w', Rel C ⟨s1.fr, aG s1.hp wr⟩ a' w' -> Q (.panic [{ v := .iface t (.int .i64 n), recovered := false }]) a' w') -> o.wpIn (fen C.rd) 0 E.P a w K Q
theorem AH.at {E : Env} {C : Ctx} {o : Oper} {s : LSt} {t : TypeId} {n : Int} {wr : LHp} (h : AH E C o s t n wr) (a : Act) (w : World) (hr : Rel C s.toA a w) (hd : ∀ d, o.dst = some d -> d < C.n) (K : Act -> World -> Prop) (Q : AEx -> ASt -> Prop) (hQ : Q (.panic t n) ⟨s.fr.get, aG (az s.hp) wr⟩) : o.wpIn (fen C.rd) 0 E.P a w K (lft C Q) :=
 h s.toA (fun _ _ => rfl) (fun _ _ => rfl) a w hr hd K _ fun _ _ j7 => ⟨.panic t n, _, rfl, hQ, j7⟩
theorem KL {E : Env} {C : Ctx} {s : LSt} {k : E1 -> Option R} {kp : TypeId -> Int -> LHp -> Option R} {r : R} (hE : E.Good) (bG : C.Γ = E.gam) {o : Oper} {x : Operand} {xs : Array Operand} {at' : Array TypeId} {f : FuncId} {cap : List AV} {g : FnE} (ho : o.op = .call ⟨.value x, xs, at'⟩)
  (hx : s.ev E x = .fn (.func f) [] cap) (hg : FnE.OK E.P E.gam f g) (h : mA g (evs E s xs.toList ++ cap) s k kp = some r) : dV E C o s k r \/ ∃ t n wr, kp t n wr = some r /\ AH E C o s t n wr := by
 unfold mA at h
 generalize hL : ft s.hp db (refsL (evs E s xs.toList ++ cap)) [] = L at h
 simp only at h
 cases hgood : (jL s.hp L 0).good with
 | false => rw [hgood] at h; cases h
 | true =>
  rw [hgood] at h
  simp only [ak] at h
  split at h
  ·rename_i args' hargs
   split at h
   ·rename_i hs hhs
    obtain ⟨ae, aF, hrun, hk⟩ := hg.nat _ _ _ _ h
    have hF := hg.ok _ _ _ _ hrun
    cases hc : (dU s.hp L 0 ++ dI L.length s.nx aF : Sg).good && eR s.hp (dI L.length s.nx aF) with
    | false => rw [hc] at hk; cases hk
    | true =>
     rw [hc] at hk
     simp only [bg] at hc
     simp only [ak] at hk
     split at hk
     ·rename_i wr vm
      have hGF : fc C := fun gg v hv => hE.gf gg v (by rw [← bG]; exact hv)
      have hH := ia hgood hhs
      have hB : oW (jL s.hp L 0) (dU s.hp L 0 ++ dI L.length s.nx aF) (az s.hp) (az aF) wr := by
       refine ⟨hc.1, ?_, ?_, ?_, ?_⟩
       ·intro o' o φ hh
        obtain ⟨ob, cx, h1, h2, h3⟩ := jK vm hc.1 hh
        exact ⟨ob, cx, h1, h2, nT h3⟩
       ·intro o o' φ hh
        obtain ⟨_, h2, h3⟩ := tw s.hp L 0 o o' φ hh
        refine ⟨_, by rw [Sg.get_append, h2], fun m v hm => AG (by rw [← h3]; exact hm)⟩
       ·intro o' o φ hh
        rw [Sg.get_append] at hh
        cases h1 : (dU s.hp L 0).get o' with
        | some p =>
         rw [h1] at hh
         cases hh
         exact .inl (tz s.hp L 0 o o' φ h1)
        | none =>
         rw [h1] at hh
         have := ni _ _ _ _ _ _ hh
         exact .inr ⟨tA s.hp L 0 o' (by omega), mz hc.2 hh⟩
       ·intro o hm
        obtain ⟨ob, ef⟩ := tv hm
        cases hi : (dU s.hp L 0 ++ dI L.length s.nx aF : Sg).inv o with
        | none => rw [nh vm hi] at ef; cases ef
        | some o' =>
         obtain ⟨φ, hφ⟩ := Sg.get_of_inv hc.1 hi
         exact ⟨o', φ, hφ⟩
      have hall : ∀ o' o φ, (dU s.hp L 0 ++ dI L.length s.nx aF : Sg).get o' = some (o, φ) -> o ∈ wr.map (·.1) := fun o' o φ hh => by
       obtain ⟨ob, cx, h1, h2, h3⟩ := jK vm hc.1 hh
       exact kW h3
      have ex : s.toA.ev C x = .fn (.func f) [] cap := by rw [bN bG, hx]
      have ea : rens (jL s.hp L 0) (xs.toList.map (s.toA.ev C) ++ cap) = some args' := by rw [lJ bG]; exact hargs
      rw [← bG] at hF
      cases ae with
      | ret rs =>
       simp only at hk
       split at hk
       ·rename_i fO rS
        exact .inl ⟨_, hk, Ks ho hGF ex ea hH hF hB hall rS⟩
       ·cases hk
      | panic t n =>
       simp only at hk
       exact .inr ⟨t, n, wr, hk, fun s1 fX gm a w hr hd K Q hQ => mr ho hGF ex ea hH hF hB hall fX gm hr hd K hQ⟩
     ·cases hk
   ·cases h
  ·cases h
def nU (hp wr : LHp) (o : Nat) : Bool :=
 match az wr o with
 | some (.arr _ _ m true _) => (match az hp o with | some (.arr _ _ m' true _) => Nat.beq m m' | _ => false)
 | _ => false
def o5 (hp wr : LHp) : LHp -> LHp
 | [] => []
 | (o, ob) :: r => bif nU hp wr o then o5 hp wr r else (o, ob) :: o5 hp wr r
def AI (hp wr : LHp) : LHp -> List Nat
 | [] => []
 | (o, _) :: r => bif nU hp wr o then o :: AI hp wr r else AI hp wr r
def KM (hp : LHp) (e : E1) : E1 := ⟨e.av, AI hp e.wr e.wr, o5 hp e.wr e.wr, e.nx⟩
theorem lK (h : Hp) (wr : LHp) (o : Nat) : aG h wr o = (match az wr o with | some ob => some ob | none => h o) := by
 rw [qj]
 unfold aG
 cases wr.find? (fun p => Nat.beq p.1 o) <;> rfl
theorem qq (hp wr : LHp) : ∀ (l : LHp) (o : Nat), az (o5 hp wr l) o = bif nU hp wr o then none else az l o
 | [], o => by cases nU hp wr o <;> rfl
 | (a, ob) :: r, o => by
  simp only [o5]
  cases ha : nU hp wr a with
  | true =>
   simp only [ak]
   rw [qq hp wr r o]
   cases ho : nU hp wr o with
   | true => rfl
   | false =>
    simp only [ax, az]
    cases hb : Nat.beq a o with
    | true => rw [bo hb, ho] at ha; cases ha
    | false => rfl
  | false =>
   simp only [ax, az]
   rw [qq hp wr r o]
   cases hb : Nat.beq a o with
   | true => rw [← bo hb, ha]; rfl
   | false => cases nU hp wr o <;> rfl
theorem tC (hp wr : LHp) : ∀ (l : LHp) (k : Nat), k ∈ l.map (·.1) -> k ∈ AI hp wr l \/ k ∈ (o5 hp wr l).map (·.1)
 | [], _, h => by cases h
 | (a, ob) :: r, k, h => by
  simp only [AI, o5]
  simp only [List.map_cons, List.mem_cons] at h
  cases ha : nU hp wr a with
  | true =>
   simp only [ak, List.mem_cons]
   rcases h with rfl | h
   ·exact .inl (.inl rfl)
   ·exact (tC hp wr r k h).imp .inr id
  | false =>
   simp only [ax, List.map_cons, List.mem_cons]
   rcases h with rfl | h
   ·exact .inr (.inl rfl)
   ·exact (tC hp wr r k h).imp id .inr
theorem Qk {hp wr : LHp} (h1 : Hp) (cY : ∀ k ∈ wr.map (·.1), h1 k = az hp k) (o : Nat) : aG h1 (o5 hp wr wr) o = aG h1 wr o \/ ∃ (T : TypeId) (e : Ty) (m : Nat) (xs : List e.den) (T' : TypeId) (e' : Ty) (oP : List e'.den), h1 o = some (.arr T e m true xs) /\ aG h1 wr o = some (.arr T' e' m true oP) /\ aG h1 (o5 hp wr wr) o = h1 o := by
 rw [lK, lK, qq]
 cases hs : nU hp wr o with
 | false => exact .inl rfl
 | true =>
  right
  unfold nU at hs
  split at hs
  ·rename_i T' e' m oP hw
   split at hs
   ·rename_i T e m' xs hh
    obtain rfl := bo hs
    exact ⟨T, e, m, xs, T', e', oP, (cY o (kW hw)).trans hh, by rw [hw], rfl⟩
   ·cases hs
  ·cases hs
theorem Ia {E : Env} {C : Ctx} {s : LSt} {k : E1 -> Option R} {kp : TypeId -> Int -> LHp -> Option R} {r : R} (hE : E.Good) (bG : C.Γ = E.gam) {o : Oper} {x : Operand} {xs : Array Operand} {at' : Array TypeId} {f : FuncId} {cap : List AV} {g : FnE} (ho : o.op = .call ⟨.value x, xs, at'⟩)
  (hx : s.ev E x = .fn (.func f) [] cap) (hg : FnE.OK E.P E.gam f g) (h : mA g (evs E s xs.toList ++ cap) s (fun e => k (KM s.hp e)) kp = some r) : dV E C o s k r \/ ∃ t n wr, kp t n wr = some r /\ AH E C o s t n wr := by
 obtain ⟨σ, dc, args', hs, ae, aF, wr, hargs, hH, hF, hB, hall, hk⟩ := tB hg h
 have hGF : fc C := fun gg v hv => hE.gf gg v (by rw [← bG]; exact hv)
 have ex : s.toA.ev C x = .fn (.func f) [] cap := by rw [bN bG, hx]
 have ea : rens σ (xs.toList.map (s.toA.ev C) ++ cap) = some args' := by rw [lJ bG]; exact hargs
 rw [← bG] at hF
 rcases hk with ⟨rs, fO, rfl, rS, hk⟩ | ⟨t, n, rfl, hk⟩
 ·exact .inl ⟨_, hk, HP ho hGF ex ea hH hF hB hall rS (tC s.hp wr wr) (fun h1 cY o => Qk h1 cY o)⟩
 ·exact .inr ⟨t, n, wr, hk, fun s1 fX gm a w hr hd K Q hQ => mr ho hGF ex ea hH hF hB hall fX gm hr hd K hQ⟩
end Go.Vm
