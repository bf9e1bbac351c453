/- Part P of the abstract machine: the executor's calls; a state seen anew; the end of a function. -/
import Derived.Test.YtnkhoojomojbpaaGreatDoorK17
namespace Go.Vm
variable {R : Type}
mutual
def AV.refs : AV -> List Nat
  | .op o _ _ => [o]
  | .os o _ => [o]
  | .oe o _ _ => [o]
  | .ow o _ _ _ => [o]
  | .pr a b => a.refs ++ b.refs
  | .fn _ first cap => refsL first ++ refsL cap
  | .iface _ v => v.refs
  | .tup l => refsL l
  | .ref o => [o]
  | _ => []
def refsL : List AV -> List Nat
  | [] => []
  | a :: l => a.refs ++ refsL l
end
def V1 : List (ak × AV) -> List Nat
 | [] => []
 | (_, a) :: l => a.refs ++ V1 l
def V2 : List (Nat × AV) -> List Nat
 | [] => []
 | (_, a) :: l => a.refs ++ V2 l
def dx.refs : dx -> List Nat
 | .map l => V1 l
 | .loop _ fr _ => V2 fr
def fb (hp : LHp) : Nat -> List Nat -> List Nat -> List Nat
 | 0, _, seen => seen
 | _ + 1, [], seen => seen
 | n + 1, o :: todo, seen =>
  bif seen.any (Nat.beq o) then fb hp n todo seen else
   match aA hp o with
   | some (.box v) => fb hp n (v.refs ++ todo) (o :: seen)
   | some (.arr _ _ _ _ _) => fb hp n todo (o :: seen)
   | some (.rc r) => fb hp n (r.refs ++ todo) (o :: seen)
   | none => fb hp n todo seen
def Aj (hp : LHp) (o : Nat) : ft := match aA hp o with | some (.arr _ _ m _ _) => .reset m | _ => .keep
def xo (hp : LHp) (o : Nat) : ft := match aA hp o with | some (.arr _ _ m _ _) => .shift m | _ => .keep
def jO (hp : LHp) (σ : Sg) : Sg -> Option LHp
 | [] => some []
 | (o, o', φ) :: r =>
  match aA hp o with
  | some ob => (match ob.ren σ φ with | some ct => (match jO hp σ r with | some l => some ((o', ct) :: l) | none => none) | none => none)
  | none => none
theorem vL {hp : LHp} {σ : Sg} {o o' : Nat} {φ : ft} {r : Sg} {l : LHp} (h : jO hp σ ((o, o', φ) :: r) = some l) : ∃ ob ct l', aA hp o = some ob /\ ob.ren σ φ = some ct /\ jO hp σ r = some l' /\ l = (o', ct) :: l' := by
 grind [jO]
theorem Sg.inv_of_get' : ∀ {σ : Sg} {o o' : Nat} {φ : ft}, σ.get o = some (o', φ) -> ∃ p, σ.inv o' = some p
 | [], _, _, _, h => by cases h
 | (a, b, ψ) :: r, o, o', φ, h => by
  simp only [Sg.get] at h
  simp only [Sg.inv]
  cases hb : Nat.beq o' b with
  | true => exact ⟨a, rfl⟩
  | false =>
   cases ha : Nat.beq o a with
   | true => rw [ha] at h; cases h; rw [Nat.beq_refl] at hb; cases hb
   | false => rw [ha] at h; exact Sg.inv_of_get' h
theorem jt {hp : LHp} {σ : Sg} : ∀ {σ0 : Sg} {l : LHp}, jO hp σ σ0 = some l -> σ0.good = true -> ∀ {o o' : Nat} {φ : ft}, σ0.get o = some (o', φ) -> ∃ ob ct, aA hp o = some ob /\ ob.ren σ φ = some ct /\ aA l o' = some ct
 | [], _, _, _, _, _, _, h => by cases h
 | (a, b, ψ) :: r, l, h, hg, o, o', φ, hget' => by
  obtain ⟨ob, ct, l', h1, h2, h3, rfl⟩ := vL h
  simp only [Sg.good, ba] at hg
  obtain ⟨⟨g1, g2⟩, g3⟩ := hg
  simp only [Sg.get] at hget'
  cases ha : Nat.beq o a with
  | true =>
   simp_all [bj, aA]
  | false =>
   rw [ha] at hget'
   obtain ⟨o1, o2, k1, k2, k3⟩ := jt h3 g3 hget'
   grind [aA, Nat.beq, Sg.inv_of_get', bj]
theorem mD {hp : LHp} {σ : Sg} : ∀ {σ0 : Sg} {l : LHp}, jO hp σ σ0 = some l -> ∀ {o' : Nat}, σ0.inv o' = none -> aA l o' = none
 | [], l, h, o', _ => by cases h; rfl
 | (a, b, ψ) :: r, l, h, o', hi => by
  obtain ⟨ob, ct, l', h1, h2, h3, rfl⟩ := vL h
  simp only [Sg.inv] at hi
  cases hb : Nat.beq o' b with
  | true => rw [hb] at hi; cases hi
  | false =>
   rw [hb] at hi
   have j2 : Nat.beq b o' = false := by
    have := iF hb
    grind [bj]
   simp only [aA, j2, ax]
   exact mD h3 hi
theorem sy : ∀ {l : LHp} {o : Nat}, o ∈ l.map (·.1) -> ∃ ob, aA l o = some ob
 | [], _, h => by cases h
 | (a, ob) :: r, o, h => by
  simp only [aA]
  cases hb : Nat.beq a o with
  | true => exact ⟨ob, rfl⟩
  | false =>
   simp only [List.map_cons, List.mem_cons] at h
   rcases h with rfl | h
   ·simp_all
   ·exact sy h
theorem kt : ∀ {l : LHp} {o : Nat} {ob : aj}, aA l o = some ob -> o ∈ l.map (·.1)
 | [], _, _, h => by cases h
 | (a, ct) :: r, o, ob, h => by
  simp only [aA] at h
  cases hb : Nat.beq a o with
  | true => rw [bj hb]; simp
  | false => rw [hb] at h; simp [kt h]
theorem nk {hp : Hp} {wr : LHp} {o : Nat} {ob : aj} (h : aA wr o = some ob) : aG hp wr o = some ob := by
 grind [pF, aG]
theorem gJ {hp h0 : LHp} {σ : Sg} (hg : σ.good = true) (h : jO hp σ σ = some h0) : cu σ (aA hp) (aA h0) :=
 ⟨hg, fun o o' φ hh => by
  obtain ⟨ob, ct, h1, h2, h3⟩ := jt h hg hh
  exact ⟨ob, ct, h1, h2, h3⟩, fun o' hi => mD h hi⟩
def ju (hp : LHp) : List Nat -> Nat -> Sg
 | [], _ => []
 | o :: l, i => (o, i, Aj hp o) :: ju hp l (i + 1)
def dF (hp : LHp) : List Nat -> Nat -> Sg
 | [], _ => []
 | o :: l, i => (i, o, xo hp o) :: dF hp l (i + 1)
def dk (k nx : Nat) : LHp -> Sg
 | [] => []
 | (j, _) :: r => bif Nat.blt j k then dk k nx r else (j, nx + (j - k), .keep) :: dk k nx r
def dY (hp : LHp) : Sg -> Bool
 | [] => true
 | (_, o, _) :: r => (match aA hp o with | none => true | some _ => false) && dY hp r
theorem sA (hp : LHp) : ∀ (L : List Nat) (i : Nat) (o o' : Nat) (φ : ft), (ju hp L i).get o = some (o', φ) -> i <= o' /\ (dF hp L i).get o' = some (o, xo hp o) /\ φ = Aj hp o
 | [], _, _, _, _, h => by cases h
 | a :: L, i, o, o', φ, h => by
  simp only [ju, Sg.get] at h
  cases hb : Nat.beq o a with
  | true =>
   simp_all [bj, Nat.le_refl, dF, Sg.get]
  | false =>
   rw [hb] at h
   obtain ⟨h1, h2, h3⟩ := sA hp L (i + 1) o o' φ h
   refine ⟨by omega, ?_, h3⟩
   simp only [dF, Sg.get]
   have : Nat.beq o' i = false := by rw [← Bool.not_eq_true]; intro h; have := bj h; omega
   grind
theorem sB (hp : LHp) : ∀ (L : List Nat) (i : Nat) (o o' : Nat) (φ : ft), (dF hp L i).get o' = some (o, φ) -> (ju hp L i).inv o' = some o
 | [], _, _, _, _, h => by cases h
 | a :: L, i, o, o', φ, h => by
  simp only [dF, Sg.get] at h
  simp only [ju, Sg.inv]
  cases hb : Nat.beq o' i with
  | true => rw [hb] at h; cases h; rfl
  | false => rw [hb] at h; exact sB hp L (i + 1) o o' φ h
theorem sC (hp : LHp) : ∀ (L : List Nat) (i : Nat) (o' : Nat), i + L.length <= o' -> (ju hp L i).inv o' = none
 | [], _, _, _ => rfl
 | a :: L, i, o', h => by
  simp only [List.length_cons] at h
  simp only [ju, Sg.inv]
  have : Nat.beq o' i = false := by rw [← Bool.not_eq_true]; intro h; have := bj h; omega
  rw [this]; exact sC hp L (i + 1) o' (by omega)
theorem Sg.get_append : ∀ (a b : Sg) (o : Nat), (a ++ b : Sg).get o = (match a.get o with | some x => some x | none => b.get o)
 | [], _, _ => rfl
 | (x, y) :: a, b, o => by
  simp only [List.cons_append, Sg.get]
  cases Nat.beq o x with
  | true => rfl
  | false => exact Sg.get_append a b o
theorem mE (k nx : Nat) : ∀ (l : LHp) (j o : Nat) (φ : ft), (dk k nx l).get j = some (o, φ) -> k <= j
 | [], _, _, _, h => by cases h
 | (a, ob) :: r, j, o, φ, h => by
  simp only [dk] at h
  cases hb : Nat.blt a k with
  | true => rw [hb] at h; exact mE k nx r j o φ h
  | false =>
   rw [hb] at h
   simp only [ax, Sg.get] at h
   cases hc : Nat.beq j a with
   | true =>
    grind [bj, Nat.lt_or_ge, Nat.blt, Nat.ble_eq_true_of_le]
   | false => rw [hc] at h; exact mE k nx r j o φ h
theorem lQ {hp : LHp} : ∀ {σ : Sg}, dY hp σ = true -> ∀ {j o : Nat} {φ : ft}, σ.get j = some (o, φ) -> aA hp o = none
 | [], _, _, _, _, h => by cases h
 | (a, b, ψ) :: r, hf, j, o, φ, h => by
  simp only [dY, ba] at hf
  simp only [Sg.get] at h
  cases hb : Nat.beq j a with
  | true =>
   grind
  | false => rw [hb] at h; exact lQ hf.2 h
theorem Ak {hp : LHp} {o m v : Nat} (h : (Aj hp o).app m = some v) : (xo hp o).app v = some m := by
 unfold Aj at h
 grind [xo, aA, ft.app, Nat.beq, bj]
structure FnE.OK (P : Program) (Γ : Nat -> Option AV) (f : FuncId) (g : FnE) : Prop where
 eq : ∀ {R : Type} (args : List AV) (hs : LHp) (k : aq -> LHp -> Option R), g.run args hs k = (g.run args hs fun a h => some (a, h)).bind fun p => k p.1 p.2
 ok : ∀ (args : List AV) (hs : LHp) (ae : aq) (aH : LHp), g.run args hs (fun a h => some (a, h)) = some (ae, aH) -> FnH P Γ f args (aA hs) (fun nd h1 => nd = ae /\ h1 = aA aH)
theorem FnE.OK.nat {P : Program} {Γ : Nat -> Option AV} {f : FuncId} {g : FnE} (h : FnE.OK P Γ f g) {R : Type} (args : List AV) (hs : LHp) (k : aq -> LHp -> Option R) (r : R) (e : g.run args hs k = some r) : ∃ ae aH, g.run args hs (fun a h => some (a, h)) = some (ae, aH) /\ k ae aH = some r := by
 rw [h.eq] at e
 obtain ⟨p, h1, h2⟩ := aS e
 grind
structure kU.OK (P : Program) (f : FuncId) (g : kU) : Prop where
 eq : ∀ {R : Type} (args : List AV) (k : AV -> Option R), g.run args k = (g.run args some).bind k
 ok : ∀ {R : Type} (args : List AV) (k : AV -> Option R) (r : R), g.run args k = some r -> ∃ av, k av = some r /\
  ∀ (w : World) (im : Nat -> Prop) (μ : Mu) (hp : Hp) (vals : List Value), vals.length = args.length -> (∀ (i : Nat) (a : AV) (v : Value), args[i]? = some a -> vals[i]? = some v -> bo w im μ hp a v) ->
   ∃ v w', (callFunc f vals.toArray).run P w = .ok (.value v) w' /\ w'.heap = w.heap /\ w'.os = w.os /\ w'.tape = w.tape /\ w'.output = w.output /\ bo w im μ hp av v
structure dV.OK (P : Program) (Γ : Nat -> Option AV) (g : dV) : Prop where
 eq : ∀ {R : Type} (o : Nat) (args : List AV) (hs : LHp) (k : Bool -> LHp -> Option R), g.run o args hs k = (g.run o args hs fun a h => some (a, h)).bind fun p => k p.1 p.2
 ok : ∀ (o : Nat) (args : List AV) (hs : LHp) (c : Bool) (aH : LHp), g.run o args hs (fun a h => some (a, h)) = some (c, aH) -> Ds P Γ o args (aA hs) (fun c' h1 => c' = c /\ h1 = aA aH)
theorem dV.OK.nat {P : Program} {Γ : Nat -> Option AV} {g : dV} (h : dV.OK P Γ g) {R : Type} (o : Nat) (args : List AV) (hs : LHp) (k : Bool -> LHp -> Option R) (r : R) (e : g.run o args hs k = some r) : ∃ c aH, g.run o args hs (fun a h => some (a, h)) = some (c, aH) /\ k c aH = some r := by
 rw [h.eq] at e
 obtain ⟨p, h1, h2⟩ := aS e
 grind
structure Env.Good (E : Env) : Prop extends Env.OK E where
 gf : ∀ g v, E.gam g = some v -> v.free = true
 calls : ∀ p ∈ E.calls, FnE.OK E.P E.gam p.1 p.2
 exts : ∀ p ∈ E.exts, kU.OK E.P p.1 p.2
 round : ∀ g, E.round = some g -> dV.OK E.P E.gam g
def cF : Nat := 1000000
def lR (g : FnE) (args : List AV) (s : LSt) (k : E1 -> Option R) (kp : TypeId -> Int -> LHp -> Option R) : Option R :=
 let L := fb s.hp cF (refsL args) []
 let σ := ju s.hp L 0
 bif σ.good then
  (match rens σ args with
  | some args' =>
   (match jO s.hp σ σ with
   | some hs => g.run args' hs fun ae aH =>
    let nw := dk L.length s.nx aH
    let cI := dF s.hp L 0 ++ nw
    bif cI.good && dY s.hp nw then
     (match jO aH cI cI with
     | some wr =>
      (match ae with
      | .ret rs => (match rens cI rs with | some fQ => k ⟨rZ fQ, [], wr, s.nx + aH.length⟩ | none => none)
      | .panic t n => kp t n wr)
     | none => none)
    else none
   | none => none)
  | none => none)
 else none
theorem xp {hp : LHp} {L : List Nat} {nx : Nat} {aH wr : LHp} (hc : (dF hp L 0 ++ dk L.length nx aH : Sg).good = true) (hf : dY hp (dk L.length nx aH) = true)
  (wR : jO aH (dF hp L 0 ++ dk L.length nx aH) (dF hp L 0 ++ dk L.length nx aH) = some wr) :
  n6 (ju hp L 0) (dF hp L 0 ++ dk L.length nx aH) (aA hp) (aA aH) wr := by
 refine ⟨hc, ?_, ?_, ?_, ?_⟩
 ·grind [jt, nk]
 ·intro o o' φ hh
  obtain ⟨_, h2, h3⟩ := sA hp L 0 o o' φ hh
  grind [Sg.get_append, Ak]
 ·grind [Sg.get_append, dF, sB, mE, sC, lQ]
 ·intro o hm
  obtain ⟨ob, dK⟩ := sy hm
  cases hi : (dF hp L 0 ++ dk L.length nx aH : Sg).inv o with
  | none => rw [mD wR hi] at dK; cases dK
  | some o' =>
   grind [Sg.get_of_inv]
theorem sD {P : Program} {Γ : Nat -> Option AV} {f : FuncId} {g : FnE} {args : List AV} {s : LSt} {k : E1 -> Option R} {kp : TypeId -> Int -> LHp -> Option R} {r : R} (hg : FnE.OK P Γ f g) (h : lR g args s k kp = some r) :
  ∃ σ cI args' hs ae aH wr, rens σ args = some args' /\ cu σ (aA s.hp) (aA hs) /\ FnH P Γ f args' (aA hs) (fun nd h1 => nd = ae /\ h1 = aA aH) /\ n6 σ cI (aA s.hp) (aA aH) wr /\ (∀ o' o φ, cI.get o' = some (o, φ) -> o ∈ wr.map (·.1)) /\
   ((∃ rs fQ, ae = .ret rs /\ rens cI rs = some fQ /\ k ⟨rZ fQ, [], wr, s.nx + aH.length⟩ = some r) \/ (∃ t n, ae = .panic t n /\ kp t n wr = some r)) := by
 unfold lR at h
 generalize hL : fb s.hp cF (refsL args) [] = L at h
 simp only at h
 cases hgood : (ju s.hp L 0).good with
 | false => rw [hgood] at h; cases h
 | true =>
  rw [hgood] at h
  simp only [ai] at h
  split at h
  ·rename_i args' hargs
   split at h
   ·rename_i hs hhs
    obtain ⟨ae, aH, hrun, hk⟩ := hg.nat _ _ _ _ h
    have hF := hg.ok _ _ _ _ hrun
    cases hc : (dF s.hp L 0 ++ dk L.length s.nx aH : Sg).good && dY s.hp (dk L.length s.nx aH) with
    | false => rw [hc] at hk; cases hk
    | true =>
     rw [hc] at hk
     simp only [ba] at hc
     simp only [ai] at hk
     split at hk
     ·rename_i wr wR
      refine ⟨_, _, args', hs, ae, aH, wr, hargs, gJ hgood hhs, hF, xp hc.1 hc.2 wR, (fun o' o φ hh => by
       obtain ⟨ob, ct, h1, h2, h3⟩ := jt wR hc.1 hh
       exact kt h3), ?_⟩
      cases ae with
      | ret rs =>
       simp only at hk
       split at hk
       ·rename_i fQ u7
        exact .inl ⟨rs, fQ, rfl, u7, hk⟩
       ·cases hk
      | panic t n => exact .inr ⟨t, n, rfl, hk⟩
     ·cases hk
   ·cases h
  ·cases h
def mF (g : dV) (q : Nat) (args : List AV) (s : LSt) (k : E1 -> Option R) : Option R :=
 match aA s.hp q with
 | some (.rc r0) =>
  bif r0.isMap then none else
  let L := fb s.hp cF (refsL (.ref q :: args)) []
  let σ := ju s.hp L 0
  bif σ.good then
   (match rens σ (.ref q :: args) with
   | some (.ref o' :: args') =>
    (match jO s.hp σ σ with
    | some hs => g.run o' args' hs fun c aH =>
     let nw := dk L.length s.nx aH
     let cI := dF s.hp L 0 ++ nw
     bif cI.good && dY s.hp nw then
      (match jO aH cI cI with
      | some wr => k ⟨.d .bool c, [], wr, s.nx + aH.length⟩
      | none => none)
     else none
    | none => none)
   | _ => none)
  else none
 | _ => none
theorem DG {E : Env} {C : Ctx} {s : LSt} {k : E1 -> Option R} {r : R} (hE : E.Good) (bt : C.Γ = E.gam) {o : Oper} {x : Operand} {xs : Array Operand} {at' : Array TypeId} {q : Nat} {g : dV} (ho : o.op = .call ⟨.value x, xs, at'⟩)
  (hx : s.ev E x = .ref q) (hg : dV.OK E.P E.gam g) (h : mF g q (evs E s xs.toList) s k = some r) : dD E C o s k r := by
 unfold mF at h
 split at h
 ·rename_i r0 hq
  cases hm : r0.isMap with
  | true => rw [hm] at h; cases h
  | false =>
   rw [hm] at h
   simp only [ax] at h
   generalize hL : fb s.hp cF (refsL (.ref q :: evs E s xs.toList)) [] = L at h
   cases hgood : (ju s.hp L 0).good with
   | false => rw [hgood] at h; cases h
   | true =>
    rw [hgood] at h
    simp only [ai] at h
    split at h
    ·rename_i o' args' hargs
     split at h
     ·rename_i hs hhs
      obtain ⟨c, aH, hrun, hk⟩ := hg.nat _ _ _ _ _ h
      have hF := hg.ok _ _ _ _ _ hrun
      cases hc : (dF s.hp L 0 ++ dk L.length s.nx aH : Sg).good && dY s.hp (dk L.length s.nx aH) with
      | false => rw [hc] at hk; cases hk
      | true =>
       rw [hc] at hk
       simp only [ba] at hc
       simp only [ai] at hk
       split at hk
       ·rename_i wr wR
        have hGF : eE C := fun gg v hv => hE.gf gg v (by rw [← bt]; exact hv)
        have ea : rens (ju s.hp L 0) (.ref q :: xs.toList.map (s.toA.ev C)) = some (.ref o' :: args') := by rw [kV bt]; exact hargs
        rw [← bt] at hF
        exact ⟨_, hk, HH ho hGF ((bC bt s x).trans hx) hq hm ea (gJ hgood hhs) hF (xp hc.1 hc.2 wR) (fun o' o φ hh => by
         obtain ⟨ob, ct, h1, h2, h3⟩ := jt wR hc.1 hh
         exact kt h3)⟩
       ·cases hk
     ·cases h
    ·cases h
 ·cases h
def Al (E : Env) (C : Ctx) (o : Oper) (s : LSt) (t : TypeId) (n : Int) (wr : LHp) : Prop :=
 ∀ s1 : ASt, (∀ x ∈ o.op.operands.toList, s1.ev C x = s.toA.ev C x) -> (∀ k, k ∈ wr.map (·.1) -> s1.hp k = aA s.hp k) -> ∀ a w, Rel C s1 a w -> (∀ d, o.dst = some d -> d < C.n) -> ∀ (K : Act -> World -> Prop) (Q : Exit -> Act -> World -> Prop), (∀ a' w', Rel C ⟨s1.fr, aG s1.hp wr⟩ a' w' -> Q (.panic [{ v := .iface t (.int .i64 n), recovered := false }]) a' w') -> o.wpIn (fen C.rd) 0 E.P a w K Q
theorem Al.at {E : Env} {C : Ctx} {o : Oper} {s : LSt} {t : TypeId} {n : Int} {wr : LHp} (h : Al E C o s t n wr) (a : Act) (w : World) (hr : Rel C s.toA a w) (hd : ∀ d, o.dst = some d -> d < C.n) (K : Act -> World -> Prop) (Q : AEx -> ASt -> Prop) (hQ : Q (.panic t n) ⟨s.fr.get, aG (aA s.hp) wr⟩) : o.wpIn (fen C.rd) 0 E.P a w K (lft C Q) :=
 h s.toA (fun _ _ => rfl) (fun _ _ => rfl) a w hr hd K _ fun _ _ lj => ⟨.panic t n, _, rfl, hQ, lj⟩
theorem KF {E : Env} {C : Ctx} {s : LSt} {k : E1 -> Option R} {kp : TypeId -> Int -> LHp -> Option R} {r : R} (hE : E.Good) (bt : C.Γ = E.gam) {o : Oper} {x : Operand} {xs : Array Operand} {at' : Array TypeId} {f : FuncId} {cap : List AV} {g : FnE} (ho : o.op = .call ⟨.value x, xs, at'⟩)
  (hx : s.ev E x = .fn (.func f) [] cap) (hg : FnE.OK E.P E.gam f g) (h : lR g (evs E s xs.toList ++ cap) s k kp = some r) : dD E C o s k r \/ ∃ t n wr, kp t n wr = some r /\ Al E C o s t n wr := by
 unfold lR at h
 generalize hL : fb s.hp cF (refsL (evs E s xs.toList ++ cap)) [] = L at h
 simp only at h
 cases hgood : (ju s.hp L 0).good with
 | false => rw [hgood] at h; cases h
 | true =>
  rw [hgood] at h
  simp only [ai] at h
  split at h
  ·rename_i args' hargs
   split at h
   ·rename_i hs hhs
    obtain ⟨ae, aH, hrun, hk⟩ := hg.nat _ _ _ _ h
    have hF := hg.ok _ _ _ _ hrun
    cases hc : (dF s.hp L 0 ++ dk L.length s.nx aH : Sg).good && dY s.hp (dk L.length s.nx aH) with
    | false => rw [hc] at hk; cases hk
    | true =>
     rw [hc] at hk
     simp only [ba] at hc
     simp only [ai] at hk
     split at hk
     ·rename_i wr wR
      have hGF : eE C := fun gg v hv => hE.gf gg v (by rw [← bt]; exact hv)
      have hH := gJ hgood hhs
      have hB : n6 (ju s.hp L 0) (dF s.hp L 0 ++ dk L.length s.nx aH) (aA s.hp) (aA aH) wr := by
       refine ⟨hc.1, ?_, ?_, ?_, ?_⟩
       ·grind [jt, nk]
       ·intro o o' φ hh
        obtain ⟨_, h2, h3⟩ := sA s.hp L 0 o o' φ hh
        grind [Sg.get_append, Ak]
       ·grind [Sg.get_append, dF, sB, mE, sC, lQ]
       ·intro o hm
        obtain ⟨ob, dK⟩ := sy hm
        cases hi : (dF s.hp L 0 ++ dk L.length s.nx aH : Sg).inv o with
        | none => rw [mD wR hi] at dK; cases dK
        | some o' =>
         grind [Sg.get_of_inv]
      have hall : ∀ o' o φ, (dF s.hp L 0 ++ dk L.length s.nx aH : Sg).get o' = some (o, φ) -> o ∈ wr.map (·.1) := fun o' o φ hh => by
       grind [jt, kt]
      have ex : s.toA.ev C x = .fn (.func f) [] cap := by rw [bC bt, hx]
      have ea : rens (ju s.hp L 0) (xs.toList.map (s.toA.ev C) ++ cap) = some args' := by rw [kV bt]; exact hargs
      rw [← bt] at hF
      cases ae with
      | ret rs =>
       simp only at hk
       split at hk
       ·rename_i fQ u7
        exact .inl ⟨_, hk, Km ho hGF ex ea hH hF hB hall u7⟩
       ·cases hk
      | panic t n =>
       simp only at hk
       exact .inr ⟨t, n, wr, hk, fun s1 fj fA a w hr hd K Q hQ => lL ho hGF ex ea hH hF hB hall fj fA hr hd K hQ⟩
     ·cases hk
   ·cases h
  ·cases h
def od (hp wr : LHp) (o : Nat) : Bool :=
 match aA wr o with
 | some (.arr _ _ m true _) => (match aA hp o with | some (.arr _ _ m' true _) => Nat.beq m m' | _ => false)
 | _ => false
def og (hp wr : LHp) : LHp -> LHp
 | [] => []
 | (o, ob) :: r => bif od hp wr o then og hp wr r else (o, ob) :: og hp wr r
def Am (hp wr : LHp) : LHp -> List Nat
 | [] => []
 | (o, _) :: r => bif od hp wr o then o :: Am hp wr r else Am hp wr r
def KG (hp : LHp) (e : E1) : E1 := ⟨e.av, Am hp e.wr e.wr, og hp e.wr e.wr, e.nx⟩
theorem nG (h : Hp) (wr : LHp) (o : Nat) : aG h wr o = (match aA wr o with | some ob => some ob | none => h o) := by
 grind [pF, aG, Nat.beq]
theorem pO (hp wr : LHp) : ∀ (l : LHp) (o : Nat), aA (og hp wr l) o = bif od hp wr o then none else aA l o
 | [], o => by cases od hp wr o <;> rfl
 | (a, ob) :: r, o => by
  simp only [og]
  cases ha : od hp wr a with
  | true =>
   simp only [ai]
   rw [pO hp wr r o]
   grind [od, aA, Nat.beq, bj]
  | false =>
   simp only [ax, aA]
   rw [pO hp wr r o]
   grind [Nat.beq, bj, od]
theorem sE (hp wr : LHp) : ∀ (l : LHp) (k : Nat), k ∈ l.map (·.1) -> k ∈ Am hp wr l \/ k ∈ (og hp wr l).map (·.1)
 | [], _, h => by cases h
 | (a, ob) :: r, k, h => by
  simp only [Am, og]
  simp only [List.map_cons, List.mem_cons] at h
  cases ha : od hp wr a with
  | true =>
   simp only [ai, List.mem_cons]
   rcases h with rfl | h
   ·simp
   ·exact (sE hp wr r k h).imp .inr id
  | false =>
   simp only [ax, List.map_cons, List.mem_cons]
   rcases h with rfl | h
   ·simp
   ·exact (sE hp wr r k h).imp id .inr
theorem Qo {hp wr : LHp} (h1 : Hp) (cy : ∀ k ∈ wr.map (·.1), h1 k = aA hp k) (o : Nat) : aG h1 (og hp wr wr) o = aG h1 wr o \/ ∃ (T : TypeId) (e : Ty) (m : Nat) (xs : List e.den) (T' : TypeId) (e' : Ty) (px : List e'.den), h1 o = some (.arr T e m true xs) /\ aG h1 wr o = some (.arr T' e' m true px) /\ aG h1 (og hp wr wr) o = h1 o := by
 grind [nG, pO, od, bj, kt]
theorem H0 {E : Env} {C : Ctx} {s : LSt} {k : E1 -> Option R} {kp : TypeId -> Int -> LHp -> Option R} {r : R} (hE : E.Good) (bt : C.Γ = E.gam) {o : Oper} {x : Operand} {xs : Array Operand} {at' : Array TypeId} {f : FuncId} {cap : List AV} {g : FnE} (ho : o.op = .call ⟨.value x, xs, at'⟩)
  (hx : s.ev E x = .fn (.func f) [] cap) (hg : FnE.OK E.P E.gam f g) (h : lR g (evs E s xs.toList ++ cap) s (fun e => k (KG s.hp e)) kp = some r) : dD E C o s k r \/ ∃ t n wr, kp t n wr = some r /\ Al E C o s t n wr := by
 obtain ⟨σ, cI, args', hs, ae, aH, wr, hargs, hH, hF, hB, hall, hk⟩ := sD hg h
 have hGF : eE C := fun gg v hv => hE.gf gg v (by rw [← bt]; exact hv)
 have ex : s.toA.ev C x = .fn (.func f) [] cap := by rw [bC bt, hx]
 have ea : rens σ (xs.toList.map (s.toA.ev C) ++ cap) = some args' := by rw [kV bt]; exact hargs
 rw [← bt] at hF
 rcases hk with ⟨rs, fQ, rfl, u7, hk⟩ | ⟨t, n, rfl, hk⟩
 ·exact .inl ⟨_, hk, HG ho hGF ex ea hH hF hB hall u7 (sE s.hp wr wr) (fun h1 cy o => Qo h1 cy o)⟩
 ·exact .inr ⟨t, n, wr, hk, fun s1 fj fA a w hr hd K Q hQ => lL ho hGF ex ea hH hF hB hall fj fA hr hd K hQ⟩
end Go.Vm
