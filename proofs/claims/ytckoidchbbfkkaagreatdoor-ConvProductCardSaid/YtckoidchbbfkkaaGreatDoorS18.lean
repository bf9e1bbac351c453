/- Part P of the abstract machine: the executor's calls; a state seen anew; the end of a function. -/
import Derived.Test.YtckoidchbbfkkaaGreatDoorS17
namespace Go.Vm

variable {R : Type}

mutual
def AV.refs : AV → List Nat
  | .op o _ _ => [o]
  | .os o _ => [o]
  | .oe o _ _ => [o]
  | .ow o _ _ _ => [o]
  | .pr a b => a.refs ++ b.refs
  | .fn _ first cap => refsL first ++ refsL cap
  | .iface _ v => v.refs
  | .tup l => refsL l
  | .ref o => [o]
  | _ => []
def refsL : List AV → List Nat
  | [] => []
  | a :: l => a.refs ++ refsL l
end

def refsE : List (List UInt8 × AV) → List Nat
  | [] => []
  | (_, a) :: l => a.refs ++ refsE l
def refsF : List (Nat × AV) → List Nat
  | [] => []
  | (_, a) :: l => a.refs ++ refsF l
def ARec.refs : ARec → List Nat
  | .map l => refsE l
  | .loop _ fr _ => refsF fr

/-- the objects that are met from these on -/
def reach (hp : LHp) : Nat → List Nat → List Nat → List Nat
  | 0, _, seen => seen
  | _ + 1, [], seen => seen
  | n + 1, o :: todo, seen =>
    bif seen.any (Nat.beq o) then reach hp n todo seen else
      match hget hp o with
      | some (.box v) => reach hp n (v.refs ++ todo) (o :: seen)
      | some (.arr _ _ _ _ _) => reach hp n todo (o :: seen)
      | some (.rc r) => reach hp n (r.refs ++ todo) (o :: seen)
      | none => reach hp n todo seen

def verIn (hp : LHp) (o : Nat) : VMap := match hget hp o with | some (.arr _ _ m _ _) => .reset m | _ => .keep
def verOut (hp : LHp) (o : Nat) : VMap := match hget hp o with | some (.arr _ _ m _ _) => .shift m | _ => .keep

def renP (hp : LHp) (σ : Sg) : Sg → Option LHp
  | [] => some []
  | (o, o', φ) :: r =>
    match hget hp o with
    | some ob => (match ob.ren σ φ with | some ob' => (match renP hp σ r with | some l => some ((o', ob') :: l) | none => none) | none => none)
    | none => none

theorem renP_cons {hp : LHp} {σ : Sg} {o o' : Nat} {φ : VMap} {r : Sg} {l : LHp} (h : renP hp σ ((o, o', φ) :: r) = some l) : ∃ ob ob' l', hget hp o = some ob ∧ ob.ren σ φ = some ob' ∧ renP hp σ r = some l' ∧ l = (o', ob') :: l' := by
  simp only [renP] at h
  split at h
  · rename_i ob hob
    split at h
    · rename_i ob' hob'
      split at h
      · rename_i l' hl'
        cases h
        exact ⟨ob, ob', l', hob, hob', hl', rfl⟩
      · cases h
    · cases h
  · cases h

theorem Sg.inv_of_get' : ∀ {σ : Sg} {o o' : Nat} {φ : VMap}, σ.get o = some (o', φ) → ∃ p, σ.inv o' = some p
  | [], _, _, _, h => by cases h
  | (a, b, ψ) :: r, o, o', φ, h => by
    simp only [Sg.get] at h
    simp only [Sg.inv]
    cases hb : Nat.beq o' b with
    | true => exact ⟨a, rfl⟩
    | false =>
      cases ha : Nat.beq o a with
      | true => rw [ha] at h; cases h; rw [Nat.beq_refl] at hb; cases hb
      | false => rw [ha] at h; exact Sg.inv_of_get' h

theorem renP_get {hp : LHp} {σ : Sg} : ∀ {σ0 : Sg} {l : LHp}, renP hp σ σ0 = some l → σ0.good = true → ∀ {o o' : Nat} {φ : VMap}, σ0.get o = some (o', φ) → ∃ ob ob', hget hp o = some ob ∧ ob.ren σ φ = some ob' ∧ hget l o' = some ob'
  | [], _, _, _, _, _, _, h => by cases h
  | (a, b, ψ) :: r, l, h, hg, o, o', φ, hget' => by
    obtain ⟨ob, ob', l', h1, h2, h3, rfl⟩ := renP_cons h
    simp only [Sg.good, Bool.and_eq_true] at hg
    obtain ⟨⟨g1, g2⟩, g3⟩ := hg
    simp only [Sg.get] at hget'
    cases ha : Nat.beq o a with
    | true =>
      rw [ha] at hget'
      cases hget'
      rw [Nat.eq_of_beq_eq_true ha]
      exact ⟨ob, ob', h1, h2, by simp [hget]⟩
    | false =>
      rw [ha] at hget'
      obtain ⟨o1, o2, k1, k2, k3⟩ := renP_get h3 g3 hget'
      refine ⟨o1, o2, k1, k2, ?_⟩
      simp only [hget]
      cases hb : Nat.beq b o' with
      | false => exact k3
      | true =>
        obtain ⟨p, hp'⟩ := Sg.inv_of_get' hget'
        rw [Nat.eq_of_beq_eq_true hb, hp'] at g2; cases g2

theorem renP_none {hp : LHp} {σ : Sg} : ∀ {σ0 : Sg} {l : LHp}, renP hp σ σ0 = some l → ∀ {o' : Nat}, σ0.inv o' = none → hget l o' = none
  | [], l, h, o', _ => by cases h; rfl
  | (a, b, ψ) :: r, l, h, o', hi => by
    obtain ⟨ob, ob', l', h1, h2, h3, rfl⟩ := renP_cons h
    simp only [Sg.inv] at hi
    cases hb : Nat.beq o' b with
    | true => rw [hb] at hi; cases hi
    | false =>
      rw [hb] at hi
      have hne : Nat.beq b o' = false := by
        have := beq_ne hb
        rw [← Bool.not_eq_true]; intro h; exact this (Nat.eq_of_beq_eq_true h).symm
      simp only [hget, hne, cond_false]
      exact renP_none h3 hi

theorem mem_hget : ∀ {l : LHp} {o : Nat}, o ∈ l.map (·.1) → ∃ ob, hget l o = some ob
  | [], _, h => by cases h
  | (a, ob) :: r, o, h => by
    simp only [hget]
    cases hb : Nat.beq a o with
    | true => exact ⟨ob, rfl⟩
    | false =>
      simp only [List.map_cons, List.mem_cons] at h
      rcases h with rfl | h
      · rw [Nat.beq_refl] at hb; cases hb
      · exact mem_hget h
theorem hget_mem : ∀ {l : LHp} {o : Nat} {ob : AObj}, hget l o = some ob → o ∈ l.map (·.1)
  | [], _, _, h => by cases h
  | (a, ob') :: r, o, ob, h => by
    simp only [hget] at h
    cases hb : Nat.beq a o with
    | true => rw [Nat.eq_of_beq_eq_true hb]; simp
    | false => rw [hb] at h; simp [hget_mem h]

theorem hpSet_of_hget {hp : Hp} {wr : LHp} {o : Nat} {ob : AObj} (h : hget wr o = some ob) : hpSet hp wr o = some ob := by
  rw [hget_find] at h
  unfold hpSet
  split at h
  · rename_i p hp'; rw [hp']; exact h
  · cases h

theorem handed_of {hp h0 : LHp} {σ : Sg} (hg : σ.good = true) (h : renP hp σ σ = some h0) : Handed σ (hget hp) (hget h0) :=
  ⟨hg, fun o o' φ hh => by
    obtain ⟨ob, ob', h1, h2, h3⟩ := renP_get h hg hh
    exact ⟨ob, ob', h1, h2, h3⟩, fun o' hi => renP_none h hi⟩

/-! ### calls -/

def sgIn (hp : LHp) : List Nat → Nat → Sg
  | [], _ => []
  | o :: l, i => (o, i, verIn hp o) :: sgIn hp l (i + 1)
def sgOut (hp : LHp) : List Nat → Nat → Sg
  | [], _ => []
  | o :: l, i => (i, o, verOut hp o) :: sgOut hp l (i + 1)
/-- the objects that are new behind a call -/
def sgNew (k nx : Nat) : LHp → Sg
  | [] => []
  | (j, _) :: r => bif Nat.blt j k then sgNew k nx r else (j, nx + (j - k), .keep) :: sgNew k nx r
def freeAll (hp : LHp) : Sg → Bool
  | [] => true
  | (_, o, _) :: r => (match hget hp o with | none => true | some _ => false) && freeAll hp r

theorem sgIn_out (hp : LHp) : ∀ (L : List Nat) (i : Nat) (o o' : Nat) (φ : VMap), (sgIn hp L i).get o = some (o', φ) → i ≤ o' ∧ (sgOut hp L i).get o' = some (o, verOut hp o) ∧ φ = verIn hp o
  | [], _, _, _, _, h => by cases h
  | a :: L, i, o, o', φ, h => by
    simp only [sgIn, Sg.get] at h
    cases hb : Nat.beq o a with
    | true =>
      rw [hb] at h
      cases h
      have := Nat.eq_of_beq_eq_true hb
      subst this
      exact ⟨Nat.le_refl _, by simp [sgOut, Sg.get], rfl⟩
    | false =>
      rw [hb] at h
      obtain ⟨h1, h2, h3⟩ := sgIn_out hp L (i + 1) o o' φ h
      refine ⟨by omega, ?_, h3⟩
      simp only [sgOut, Sg.get]
      have : Nat.beq o' i = false := by rw [← Bool.not_eq_true]; intro h; have := Nat.eq_of_beq_eq_true h; omega
      rw [this]; exact h2

theorem sgOut_in (hp : LHp) : ∀ (L : List Nat) (i : Nat) (o o' : Nat) (φ : VMap), (sgOut hp L i).get o' = some (o, φ) → (sgIn hp L i).inv o' = some o
  | [], _, _, _, _, h => by cases h
  | a :: L, i, o, o', φ, h => by
    simp only [sgOut, Sg.get] at h
    simp only [sgIn, Sg.inv]
    cases hb : Nat.beq o' i with
    | true => rw [hb] at h; cases h; rfl
    | false => rw [hb] at h; exact sgOut_in hp L (i + 1) o o' φ h

theorem sgIn_inv (hp : LHp) : ∀ (L : List Nat) (i : Nat) (o' : Nat), i + L.length ≤ o' → (sgIn hp L i).inv o' = none
  | [], _, _, _ => rfl
  | a :: L, i, o', h => by
    simp only [List.length_cons] at h
    simp only [sgIn, Sg.inv]
    have : Nat.beq o' i = false := by rw [← Bool.not_eq_true]; intro h; have := Nat.eq_of_beq_eq_true h; omega
    rw [this]; exact sgIn_inv hp L (i + 1) o' (by omega)

theorem Sg.get_append : ∀ (a b : Sg) (o : Nat), (a ++ b : Sg).get o = (match a.get o with | some x => some x | none => b.get o)
  | [], _, _ => rfl
  | (x, y) :: a, b, o => by
    simp only [List.cons_append, Sg.get]
    cases Nat.beq o x with
    | true => rfl
    | false => exact Sg.get_append a b o

theorem sgNew_get (k nx : Nat) : ∀ (l : LHp) (j o : Nat) (φ : VMap), (sgNew k nx l).get j = some (o, φ) → k ≤ j
  | [], _, _, _, h => by cases h
  | (a, ob) :: r, j, o, φ, h => by
    simp only [sgNew] at h
    cases hb : Nat.blt a k with
    | true => rw [hb] at h; exact sgNew_get k nx r j o φ h
    | false =>
      rw [hb] at h
      simp only [cond_false, Sg.get] at h
      cases hc : Nat.beq j a with
      | true =>
        have h1 := Nat.eq_of_beq_eq_true hc
        subst h1
        rcases Nat.lt_or_ge j k with h2 | h2
        · have : Nat.blt j k = true := Nat.ble_eq_true_of_le h2
          rw [this] at hb; cases hb
        · exact h2
      | false => rw [hc] at h; exact sgNew_get k nx r j o φ h

theorem freeAll_get {hp : LHp} : ∀ {σ : Sg}, freeAll hp σ = true → ∀ {j o : Nat} {φ : VMap}, σ.get j = some (o, φ) → hget hp o = none
  | [], _, _, _, _, h => by cases h
  | (a, b, ψ) :: r, hf, j, o, φ, h => by
    simp only [freeAll, Bool.and_eq_true] at hf
    simp only [Sg.get] at h
    cases hb : Nat.beq j a with
    | true =>
      rw [hb] at h; cases h
      cases hh : hget hp b with
      | none => rfl
      | some ob => rw [hh] at hf; cases hf.1
    | false => rw [hb] at h; exact freeAll_get hf.2 h

theorem ver_back {hp : LHp} {o m v : Nat} (h : (verIn hp o).app m = some v) : (verOut hp o).app v = some m := by
  unfold verIn at h
  unfold verOut
  cases hh : hget hp o with
  | none => rw [hh] at h; cases h; rfl
  | some ob =>
    cases ob with
    | box u => rw [hh] at h; cases h; rfl
    | rc u => rw [hh] at h; cases h; rfl
    | arr T e k z xs =>
      rw [hh] at h
      simp only [VMap.app] at h ⊢
      cases hb : Nat.beq m k with
      | false => rw [hb] at h; cases h
      | true =>
        rw [hb] at h; cases h
        rw [Nat.eq_of_beq_eq_true hb]; rfl

/-- right for function f -/
structure FnE.OK (P : Program) (Γ : Nat → Option AV) (f : FuncId) (g : FnE) : Prop where
  eq : ∀ {R : Type} (args : List AV) (hs : LHp) (k : AEnd → LHp → Option R), g.run args hs k = (g.run args hs fun a h => some (a, h)).bind fun p => k p.1 p.2
  ok : ∀ (args : List AV) (hs : LHp) (ae : AEnd) (hs' : LHp), g.run args hs (fun a h => some (a, h)) = some (ae, hs') → FnH P Γ f args (hget hs) (fun ae' h1 => ae' = ae ∧ h1 = hget hs')

theorem FnE.OK.nat {P : Program} {Γ : Nat → Option AV} {f : FuncId} {g : FnE} (h : FnE.OK P Γ f g) {R : Type} (args : List AV) (hs : LHp) (k : AEnd → LHp → Option R) (r : R) (e : g.run args hs k = some r) : ∃ ae hs', g.run args hs (fun a h => some (a, h)) = some (ae, hs') ∧ k ae hs' = some r := by
  rw [h.eq] at e
  obtain ⟨p, h1, h2⟩ := bind_some e
  exact ⟨p.1, p.2, h1, h2⟩

structure ExtE.OK (P : Program) (f : FuncId) (g : ExtE) : Prop where
  eq : ∀ {R : Type} (args : List AV) (k : AV → Option R), g.run args k = (g.run args some).bind k
  ok : ∀ {R : Type} (args : List AV) (k : AV → Option R) (r : R), g.run args k = some r → ∃ av, k av = some r ∧
    ∀ (w : World) (im : Nat → Prop) (μ : Mu) (hp : Hp) (vals : List Value), vals.length = args.length → (∀ (i : Nat) (a : AV) (v : Value), args[i]? = some a → vals[i]? = some v → RepV w im μ hp a v) →
      ∃ v w', (callFunc f vals.toArray).run P w = .ok (.value v) w' ∧ w'.heap = w.heap ∧ w'.os = w.os ∧ w'.tape = w.tape ∧ w'.output = w.output ∧ RepV w im μ hp av v

structure RoundE.OK (P : Program) (Γ : Nat → Option AV) (g : RoundE) : Prop where
  eq : ∀ {R : Type} (o : Nat) (args : List AV) (hs : LHp) (k : Bool → LHp → Option R), g.run o args hs k = (g.run o args hs fun a h => some (a, h)).bind fun p => k p.1 p.2
  ok : ∀ (o : Nat) (args : List AV) (hs : LHp) (c : Bool) (hs' : LHp), g.run o args hs (fun a h => some (a, h)) = some (c, hs') → RoundH P Γ o args (hget hs) (fun c' h1 => c' = c ∧ h1 = hget hs')

theorem RoundE.OK.nat {P : Program} {Γ : Nat → Option AV} {g : RoundE} (h : RoundE.OK P Γ g) {R : Type} (o : Nat) (args : List AV) (hs : LHp) (k : Bool → LHp → Option R) (r : R) (e : g.run o args hs k = some r) : ∃ c hs', g.run o args hs (fun a h => some (a, h)) = some (c, hs') ∧ k c hs' = some r := by
  rw [h.eq] at e
  obtain ⟨p, h1, h2⟩ := bind_some e
  exact ⟨p.1, p.2, h1, h2⟩

structure Env.Good (E : Env) : Prop extends Env.OK E where
  gf : ∀ g v, E.gam g = some v → v.free = true
  calls : ∀ p ∈ E.calls, FnE.OK E.P E.gam p.1 p.2
  exts : ∀ p ∈ E.exts, ExtE.OK E.P p.1 p.2
  round : ∀ g, E.round = some g → RoundE.OK E.P E.gam g

def manyFuel : Nat := 1000000

def callE (g : FnE) (args : List AV) (s : LSt) (k : E1 → Option R) (kp : TypeId → Int → LHp → Option R) : Option R :=
  let L := reach s.hp manyFuel (refsL args) []
  let σ := sgIn s.hp L 0
  bif σ.good then
    (match rens σ args with
    | some args' =>
      (match renP s.hp σ σ with
      | some hs => g.run args' hs fun ae hs' =>
        let nw := sgNew L.length s.nx hs'
        let σ' := sgOut s.hp L 0 ++ nw
        bif σ'.good && freeAll s.hp nw then
          (match renP hs' σ' σ' with
          | some wr =>
            (match ae with
            | .ret rs => (match rens σ' rs with | some rs' => k ⟨retAV rs', [], wr, s.nx + hs'.length⟩ | none => none)
            | .panic t n => kp t n wr)
          | none => none)
        else none
      | none => none)
    | none => none)
  else none

theorem back_of {hp : LHp} {L : List Nat} {nx : Nat} {hs' wr : LHp} (hc : (sgOut hp L 0 ++ sgNew L.length nx hs' : Sg).good = true) (hf : freeAll hp (sgNew L.length nx hs') = true)
    (hwr : renP hs' (sgOut hp L 0 ++ sgNew L.length nx hs') (sgOut hp L 0 ++ sgNew L.length nx hs') = some wr) :
    Back (sgIn hp L 0) (sgOut hp L 0 ++ sgNew L.length nx hs') (hget hp) (hget hs') wr := by
  refine ⟨hc, ?_, ?_, ?_, ?_⟩
  · intro o' o φ hh
    obtain ⟨ob, ob', h1, h2, h3⟩ := renP_get hwr hc hh
    exact ⟨ob, ob', h1, h2, hpSet_of_hget h3⟩
  · intro o o' φ hh
    obtain ⟨_, h2, h3⟩ := sgIn_out hp L 0 o o' φ hh
    refine ⟨_, by rw [Sg.get_append, h2], fun m v hm => ver_back (by rw [← h3]; exact hm)⟩
  · intro o' o φ hh
    rw [Sg.get_append] at hh
    cases h1 : (sgOut hp L 0).get o' with
    | some p =>
      rw [h1] at hh
      cases hh
      exact .inl (sgOut_in hp L 0 o o' φ h1)
    | none =>
      rw [h1] at hh
      have := sgNew_get _ _ _ _ _ _ hh
      exact .inr ⟨sgIn_inv hp L 0 o' (by omega), freeAll_get hf hh⟩
  · intro o hm
    obtain ⟨ob, hob⟩ := mem_hget hm
    cases hi : (sgOut hp L 0 ++ sgNew L.length nx hs' : Sg).inv o with
    | none => rw [renP_none hwr hi] at hob; cases hob
    | some o' =>
      obtain ⟨φ, hφ⟩ := Sg.get_of_inv hc hi
      exact ⟨o', φ, hφ⟩


/-- what a call's coming through says -/
theorem callE_some {P : Program} {Γ : Nat → Option AV} {f : FuncId} {g : FnE} {args : List AV} {s : LSt} {k : E1 → Option R} {kp : TypeId → Int → LHp → Option R} {r : R} (hg : FnE.OK P Γ f g) (h : callE g args s k kp = some r) :
    ∃ σ σ' args' hs ae hs' wr, rens σ args = some args' ∧ Handed σ (hget s.hp) (hget hs) ∧ FnH P Γ f args' (hget hs) (fun ae' h1 => ae' = ae ∧ h1 = hget hs') ∧ Back σ σ' (hget s.hp) (hget hs') wr ∧ (∀ o' o φ, σ'.get o' = some (o, φ) → o ∈ wr.map (·.1)) ∧
      ((∃ rs rs', ae = .ret rs ∧ rens σ' rs = some rs' ∧ k ⟨retAV rs', [], wr, s.nx + hs'.length⟩ = some r) ∨ (∃ t n, ae = .panic t n ∧ kp t n wr = some r)) := by
  unfold callE at h
  generalize hL : reach s.hp manyFuel (refsL args) [] = L at h
  simp only at h
  cases hgood : (sgIn s.hp L 0).good with
  | false => rw [hgood] at h; cases h
  | true =>
    rw [hgood] at h
    simp only [cond_true] at h
    split at h
    · rename_i args' hargs
      split at h
      · rename_i hs hhs
        obtain ⟨ae, hs', hrun, hk⟩ := hg.nat _ _ _ _ h
        have hF := hg.ok _ _ _ _ hrun
        cases hc : (sgOut s.hp L 0 ++ sgNew L.length s.nx hs' : Sg).good && freeAll s.hp (sgNew L.length s.nx hs') with
        | false => rw [hc] at hk; cases hk
        | true =>
          rw [hc] at hk
          simp only [Bool.and_eq_true] at hc
          simp only [cond_true] at hk
          split at hk
          · rename_i wr hwr
            refine ⟨_, _, args', hs, ae, hs', wr, hargs, handed_of hgood hhs, hF, back_of hc.1 hc.2 hwr, (fun o' o φ hh => by
              obtain ⟨ob, ob', h1, h2, h3⟩ := renP_get hwr hc.1 hh
              exact hget_mem h3), ?_⟩
            cases ae with
            | ret rs =>
              simp only at hk
              split at hk
              · rename_i rs' hrs
                exact .inl ⟨rs, rs', rfl, hrs, hk⟩
              · cases hk
            | panic t n => exact .inr ⟨t, n, rfl, hk⟩
          · cases hk
      · cases h
    · cases h

def opYield (g : RoundE) (q : Nat) (args : List AV) (s : LSt) (k : E1 → Option R) : Option R :=
  match hget s.hp q with
  | some (.rc r0) =>
    bif r0.isMap then none else
    let L := reach s.hp manyFuel (refsL (.ref q :: args)) []
    let σ := sgIn s.hp L 0
    bif σ.good then
      (match rens σ (.ref q :: args) with
      | some (.ref o' :: args') =>
        (match renP s.hp σ σ with
        | some hs => g.run o' args' hs fun c hs' =>
          let nw := sgNew L.length s.nx hs'
          let σ' := sgOut s.hp L 0 ++ nw
          bif σ'.good && freeAll s.hp nw then
            (match renP hs' σ' σ' with
            | some wr => k ⟨.d .bool c, [], wr, s.nx + hs'.length⟩
            | none => none)
          else none
        | none => none)
      | _ => none)
    else none
  | _ => none

theorem opYield_ok {E : Env} {C : Ctx} {s : LSt} {k : E1 → Option R} {r : R} (hE : E.Good) (hΓ : C.Γ = E.gam) {o : Oper} {x : Operand} {xs : Array Operand} {at' : Array TypeId} {q : Nat} {g : RoundE} (ho : o.op = .call ⟨.value x, xs, at'⟩)
    (hx : s.ev E x = .ref q) (hg : RoundE.OK E.P E.gam g) (h : opYield g q (evs E s xs.toList) s k = some r) : Does E C o s k r := by
  unfold opYield at h
  split at h
  · rename_i r0 hq
    cases hm : r0.isMap with
    | true => rw [hm] at h; cases h
    | false =>
      rw [hm] at h
      simp only [cond_false] at h
      generalize hL : reach s.hp manyFuel (refsL (.ref q :: evs E s xs.toList)) [] = L at h
      cases hgood : (sgIn s.hp L 0).good with
      | false => rw [hgood] at h; cases h
      | true =>
        rw [hgood] at h
        simp only [cond_true] at h
        split at h
        · rename_i o' args' hargs
          split at h
          · rename_i hs hhs
            obtain ⟨c, hs', hrun, hk⟩ := hg.nat _ _ _ _ _ h
            have hF := hg.ok _ _ _ _ _ hrun
            cases hc : (sgOut s.hp L 0 ++ sgNew L.length s.nx hs' : Sg).good && freeAll s.hp (sgNew L.length s.nx hs') with
            | false => rw [hc] at hk; cases hk
            | true =>
              rw [hc] at hk
              simp only [Bool.and_eq_true] at hc
              simp only [cond_true] at hk
              split at hk
              · rename_i wr hwr
                have hGF : GlobFree C := fun gg v hv => hE.gf gg v (by rw [← hΓ]; exact hv)
                have ea : rens (sgIn s.hp L 0) (.ref q :: xs.toList.map (s.toA.ev C)) = some (.ref o' :: args') := by rw [evs_map hΓ]; exact hargs
                rw [← hΓ] at hF
                exact ⟨_, hk, opW_yield ho hGF ((ev_eq hΓ s x).trans hx) hq hm ea (handed_of hgood hhs) hF (back_of hc.1 hc.2 hwr) (fun o' o φ hh => by
                  obtain ⟨ob, ob', h1, h2, h3⟩ := renP_get hwr hc.1 hh
                  exact hget_mem h3)⟩
              · cases hk
          · cases h
        · cases h
  · cases h

/-- it panics, these objects turned -/
def PanW (E : Env) (C : Ctx) (o : Oper) (s : LSt) (t : TypeId) (n : Int) (wr : LHp) : Prop :=
  ∀ a w, Rel C s.toA a w → (∀ d, o.dst = some d → d < C.n) → ∀ (K : Act → World → Prop) (Q : AEx → ASt → Prop), Q (.panic t n) ⟨s.fr.get, hpSet (hget s.hp) wr⟩ → o.wpIn (fen C.rd) 0 E.P a w K (lft C Q)

theorem callE_ok {E : Env} {C : Ctx} {s : LSt} {k : E1 → Option R} {kp : TypeId → Int → LHp → Option R} {r : R} (hE : E.Good) (hΓ : C.Γ = E.gam) {o : Oper} {x : Operand} {xs : Array Operand} {at' : Array TypeId} {f : FuncId} {cap : List AV} {g : FnE} (ho : o.op = .call ⟨.value x, xs, at'⟩)
    (hx : s.ev E x = .fn (.func f) [] cap) (hg : FnE.OK E.P E.gam f g) (h : callE g (evs E s xs.toList ++ cap) s k kp = some r) : Does E C o s k r ∨ ∃ t n wr, kp t n wr = some r ∧ PanW E C o s t n wr := by
  unfold callE at h
  generalize hL : reach s.hp manyFuel (refsL (evs E s xs.toList ++ cap)) [] = L at h
  simp only at h
  cases hgood : (sgIn s.hp L 0).good with
  | false => rw [hgood] at h; cases h
  | true =>
    rw [hgood] at h
    simp only [cond_true] at h
    split at h
    · rename_i args' hargs
      split at h
      · rename_i hs hhs
        obtain ⟨ae, hs', hrun, hk⟩ := hg.nat _ _ _ _ h
        have hF := hg.ok _ _ _ _ hrun
        cases hc : (sgOut s.hp L 0 ++ sgNew L.length s.nx hs' : Sg).good && freeAll s.hp (sgNew L.length s.nx hs') with
        | false => rw [hc] at hk; cases hk
        | true =>
          rw [hc] at hk
          simp only [Bool.and_eq_true] at hc
          simp only [cond_true] at hk
          split at hk
          · rename_i wr hwr
            have hGF : GlobFree C := fun gg v hv => hE.gf gg v (by rw [← hΓ]; exact hv)
            have hH := handed_of hgood hhs
            have hB : Back (sgIn s.hp L 0) (sgOut s.hp L 0 ++ sgNew L.length s.nx hs') (hget s.hp) (hget hs') wr := by
              refine ⟨hc.1, ?_, ?_, ?_, ?_⟩
              · intro o' o φ hh
                obtain ⟨ob, ob', h1, h2, h3⟩ := renP_get hwr hc.1 hh
                exact ⟨ob, ob', h1, h2, hpSet_of_hget h3⟩
              · intro o o' φ hh
                obtain ⟨_, h2, h3⟩ := sgIn_out s.hp L 0 o o' φ hh
                refine ⟨_, by rw [Sg.get_append, h2], fun m v hm => ver_back (by rw [← h3]; exact hm)⟩
              · intro o' o φ hh
                rw [Sg.get_append] at hh
                cases h1 : (sgOut s.hp L 0).get o' with
                | some p =>
                  rw [h1] at hh
                  cases hh
                  exact .inl (sgOut_in s.hp L 0 o o' φ h1)
                | none =>
                  rw [h1] at hh
                  have := sgNew_get _ _ _ _ _ _ hh
                  exact .inr ⟨sgIn_inv s.hp L 0 o' (by omega), freeAll_get hc.2 hh⟩
              · intro o hm
                obtain ⟨ob, hob⟩ := mem_hget hm
                cases hi : (sgOut s.hp L 0 ++ sgNew L.length s.nx hs' : Sg).inv o with
                | none => rw [renP_none hwr hi] at hob; cases hob
                | some o' =>
                  obtain ⟨φ, hφ⟩ := Sg.get_of_inv hc.1 hi
                  exact ⟨o', φ, hφ⟩
            have hall : ∀ o' o φ, (sgOut s.hp L 0 ++ sgNew L.length s.nx hs' : Sg).get o' = some (o, φ) → o ∈ wr.map (·.1) := fun o' o φ hh => by
              obtain ⟨ob, ob', h1, h2, h3⟩ := renP_get hwr hc.1 hh
              exact hget_mem h3
            have ex : s.toA.ev C x = .fn (.func f) [] cap := by rw [ev_eq hΓ, hx]
            have ea : rens (sgIn s.hp L 0) (xs.toList.map (s.toA.ev C) ++ cap) = some args' := by rw [evs_map hΓ]; exact hargs
            rw [← hΓ] at hF
            cases ae with
            | ret rs =>
              simp only at hk
              split at hk
              · rename_i rs' hrs
                exact .inl ⟨_, hk, opW_call ho hGF ex ea hH hF hB hall hrs⟩
              · cases hk
            | panic t n =>
              simp only at hk
              exact .inr ⟨t, n, wr, hk, fun a w hr hd K Q hQ => wp_call_panic ho hGF ex ea hH hF hB hall hr hd K hQ⟩
          · cases hk
      · cases h
    · cases h

/-! ### arrays that turn no more, left as they were -/

def sameK (hp wr : LHp) (o : Nat) : Bool :=
  match hget wr o with
  | some (.arr _ _ m true _) => (match hget hp o with | some (.arr _ _ m' true _) => Nat.beq m m' | _ => false)
  | _ => false
def keepW (hp wr : LHp) : LHp → LHp
  | [] => []
  | (o, ob) :: r => bif sameK hp wr o then keepW hp wr r else (o, ob) :: keepW hp wr r
def keepR (hp wr : LHp) : LHp → List Nat
  | [] => []
  | (o, _) :: r => bif sameK hp wr o then o :: keepR hp wr r else keepR hp wr r
def dropFz (hp : LHp) (e : E1) : E1 := ⟨e.av, keepR hp e.wr e.wr, keepW hp e.wr e.wr, e.nx⟩

theorem hpSet_hget (h : Hp) (wr : LHp) (o : Nat) : hpSet h wr o = (match hget wr o with | some ob => some ob | none => h o) := by
  rw [hget_find]
  unfold hpSet
  cases wr.find? (fun p => Nat.beq p.1 o) <;> rfl
theorem keepW_get (hp wr : LHp) : ∀ (l : LHp) (o : Nat), hget (keepW hp wr l) o = bif sameK hp wr o then none else hget l o
  | [], o => by cases sameK hp wr o <;> rfl
  | (a, ob) :: r, o => by
    simp only [keepW]
    cases ha : sameK hp wr a with
    | true =>
      simp only [cond_true]
      rw [keepW_get hp wr r o]
      cases ho : sameK hp wr o with
      | true => rfl
      | false =>
        simp only [cond_false, hget]
        cases hb : Nat.beq a o with
        | true => rw [Nat.eq_of_beq_eq_true hb, ho] at ha; cases ha
        | false => rfl
    | false =>
      simp only [cond_false, hget]
      rw [keepW_get hp wr r o]
      cases hb : Nat.beq a o with
      | true => rw [← Nat.eq_of_beq_eq_true hb, ha]; rfl
      | false => cases sameK hp wr o <;> rfl
theorem keep_mem (hp wr : LHp) : ∀ (l : LHp) (k : Nat), k ∈ l.map (·.1) → k ∈ keepR hp wr l ∨ k ∈ (keepW hp wr l).map (·.1)
  | [], _, h => by cases h
  | (a, ob) :: r, k, h => by
    simp only [keepR, keepW]
    simp only [List.map_cons, List.mem_cons] at h
    cases ha : sameK hp wr a with
    | true =>
      simp only [cond_true, List.mem_cons]
      rcases h with rfl | h
      · exact .inl (.inl rfl)
      · exact (keep_mem hp wr r k h).imp .inr id
    | false =>
      simp only [cond_false, List.map_cons, List.mem_cons]
      rcases h with rfl | h
      · exact .inr (.inl rfl)
      · exact (keep_mem hp wr r k h).imp id .inr
theorem keep_hp {hp wr : LHp} (h1 : Hp) (hag : ∀ k ∈ wr.map (·.1), h1 k = hget hp k) (o : Nat) : hpSet h1 (keepW hp wr wr) o = hpSet h1 wr o ∨ ∃ (T : TypeId) (e : Ty) (m : Nat) (xs : List e.den) (T' : TypeId) (e' : Ty) (xs' : List e'.den), h1 o = some (.arr T e m true xs) ∧ hpSet h1 wr o = some (.arr T' e' m true xs') ∧ hpSet h1 (keepW hp wr wr) o = h1 o := by
  rw [hpSet_hget, hpSet_hget, keepW_get]
  cases hs : sameK hp wr o with
  | false => exact .inl rfl
  | true =>
    right
    unfold sameK at hs
    split at hs
    · rename_i T' e' m xs' hw
      split at hs
      · rename_i T e m' xs hh
        obtain rfl := Nat.eq_of_beq_eq_true hs
        exact ⟨T, e, m, xs, T', e', xs', (hag o (hget_mem hw)).trans hh, by rw [hw], rfl⟩
      · cases hs
    · cases hs

theorem callE_okF {E : Env} {C : Ctx} {s : LSt} {k : E1 → Option R} {kp : TypeId → Int → LHp → Option R} {r : R} (hE : E.Good) (hΓ : C.Γ = E.gam) {o : Oper} {x : Operand} {xs : Array Operand} {at' : Array TypeId} {f : FuncId} {cap : List AV} {g : FnE} (ho : o.op = .call ⟨.value x, xs, at'⟩)
    (hx : s.ev E x = .fn (.func f) [] cap) (hg : FnE.OK E.P E.gam f g) (h : callE g (evs E s xs.toList ++ cap) s (fun e => k (dropFz s.hp e)) kp = some r) : Does E C o s k r ∨ ∃ t n wr, kp t n wr = some r ∧ PanW E C o s t n wr := by
  obtain ⟨σ, σ', args', hs, ae, hs', wr, hargs, hH, hF, hB, hall, hk⟩ := callE_some hg h
  have hGF : GlobFree C := fun gg v hv => hE.gf gg v (by rw [← hΓ]; exact hv)
  have ex : s.toA.ev C x = .fn (.func f) [] cap := by rw [ev_eq hΓ, hx]
  have ea : rens σ (xs.toList.map (s.toA.ev C) ++ cap) = some args' := by rw [evs_map hΓ]; exact hargs
  rw [← hΓ] at hF
  rcases hk with ⟨rs, rs', rfl, hrs, hk⟩ | ⟨t, n, rfl, hk⟩
  · exact .inl ⟨_, hk, opW_callF ho hGF ex ea hH hF hB hall hrs (keep_mem s.hp wr wr) (fun h1 hag o => keep_hp h1 hag o)⟩
  · exact .inr ⟨t, n, wr, hk, fun a w hr hd K Q hQ => wp_call_panic ho hGF ex ea hH hF hB hall hr hd K hQ⟩

end Go.Vm
