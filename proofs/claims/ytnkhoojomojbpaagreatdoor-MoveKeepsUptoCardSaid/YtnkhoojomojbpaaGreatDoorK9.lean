/- Part I of the abstract machine: objects under other names; functions that are handed objects; calls. -/
import Derived.Test.YtnkhoojomojbpaaGreatDoorK8
namespace Go.Vm
mutual
def AV.free : AV -> Bool
  | .undef => false
  | .d _ _ => true
  | .ip _ _ => true
  | .op _ _ _ => false
  | .os _ _ => false
  | .oe _ _ _ => false
  | .ow _ _ _ _ => false
  | .nils => true
  | .emp => true
  | .pr a b => a.free && b.free
  | .tup _ => false
  | .fn _ first cap => frees first && frees cap
  | .nilfn => true
  | .iface _ v => v.free
  | .nilif => true
  | .nilp => true
  | .ref _ => false
def frees : List AV -> Bool
  | [] => true
  | a :: l => a.free && frees l
end
section
variable {w : World} {im : Nat -> Prop} {μ bh : Mu} {hp bp : Hp}
mutual
/-- what names no object stands whatever the objects are -/
theorem RepA.free : ∀ (a : AV) (cs : List Value), a.free = true -> RepA w im μ hp a cs -> RepA w im bh bp a cs
  | .undef, _, hf, _ => by simp [AV.free] at hf
  | .d t x, cs, _, hr => by simp only [RepA] at hr ⊢; exact hr
  | .ip t x, cs, _, hr => by simp only [RepA] at hr ⊢; exact hr
  | .op _ _ _, _, hf, _ => by simp [AV.free] at hf
  | .os _ _, _, hf, _ => by simp [AV.free] at hf
  | .oe _ _ _, _, hf, _ => by simp [AV.free] at hf
  | .ow _ _ _ _, _, hf, _ => by simp [AV.free] at hf
  | .nils, cs, _, hr => by simp only [RepA] at hr ⊢; exact hr
  | .emp, cs, _, hr => by simp only [RepA] at hr ⊢; exact hr
  | .pr a b, cs, hf, hr => by
    simp only [AV.free, ba] at hf
    simp only [RepA] at hr ⊢
    obtain ⟨c1, c2, e, h1, h2⟩ := hr
    exact ⟨c1, c2, e, RepA.free a c1 hf.1 h1, RepA.free b c2 hf.2 h2⟩
  | .tup _, _, hf, _ => by simp [AV.free] at hf
  | .fn f first cap, cs, hf, hr => by
    simp only [AV.free, ba] at hf
    simp only [RepA] at hr ⊢
    obtain ⟨vs, us, e, h1, h2⟩ := hr
    exact ⟨vs, us, e, RepFs.free first vs hf.1 h1, RepFs.free cap us hf.2 h2⟩
  | .nilfn, cs, _, hr => by simp only [RepA] at hr ⊢; exact hr
  | .iface t v, cs, hf, hr => by
    simp only [AV.free] at hf
    simp only [RepA] at hr ⊢
    obtain ⟨u, e, h1, h2⟩ := hr
    simp_all [RepA.free]
  | .nilif, cs, _, hr => by simp only [RepA] at hr ⊢; exact hr
  | .nilp, cs, _, hr => by simp only [RepA] at hr ⊢; exact hr
  | .ref _, _, hf, _ => by simp [AV.free] at hf
theorem RepFs.free : ∀ (l : List AV) (vs : List Value), frees l = true -> RepFs w im μ hp l vs -> RepFs w im bh bp l vs
  | [], vs, _, hr => by simp only [RepFs] at hr ⊢; exact hr
  | a :: l, vs, hf, hr => by
    simp only [frees, ba] at hf
    simp only [RepFs] at hr ⊢
    obtain ⟨v, us, e, h1, h2, h3⟩ := hr
    exact ⟨v, us, e, RepA.free a _ hf.1 h1, h2, RepFs.free l us hf.2 h3⟩
end
end
theorem fB {a : AV} (h : a.free = true) : a.plain = true := by cases a <;> simp_all [AV.free, AV.plain]
def eE (C : Ctx) : Prop := ∀ g v, C.Γ g = some v -> v.free = true
inductive ft where
 | keep
 | reset (m : Nat)
 | shift (k : Nat)
def ft.app : ft -> Nat -> Option Nat
 | .keep, n => some n
 | .reset m, n => bif Nat.beq n m then some 0 else none
 | .shift k, n => some (k + n)
theorem ft.mono {φ : ft} {n m n' m' : Nat} (hn : φ.app n = some n') (hm : φ.app m = some m') (h : n <= m) : n' <= m' /\ (n' = m' -> n = m) := by
 cases φ with
 | keep => cases hn; cases hm; exact ⟨h, id⟩
 | reset k =>
  simp only [ft.app] at hn hm
  cases h1 : Nat.beq n k with
  | false => rw [h1] at hn; cases hn
  | true =>
   cases h2 : Nat.beq m k with
   | false => rw [h2] at hm; cases hm
   | true =>
    simp_all
 | shift k => cases hn; cases hm; exact ⟨by omega, fun h => by omega⟩
abbrev Sg := List (Nat × Nat × ft)
def Sg.get : Sg -> Nat -> Option (Nat × ft)
 | [], _ => none
 | (a, b) :: r, o => bif Nat.beq o a then some b else Sg.get r o
def Sg.inv : Sg -> Nat -> Option Nat
 | [], _ => none
 | (a, b, _) :: r, o => bif Nat.beq o b then some a else Sg.inv r o
def Sg.good : Sg -> Bool
 | [] => true
 | (a, b, _) :: r => (match Sg.get r a with | none => true | some _ => false) && (match Sg.inv r b with | none => true | some _ => false) && Sg.good r
theorem iF {a b : Nat} (h : Nat.beq a b = false) : a ≠ b := fun e => by subst e; rw [Nat.beq_refl] at h; cases h
theorem Sg.inv_of_get : ∀ {σ : Sg}, σ.good = true -> ∀ {o o' : Nat} {φ : ft}, σ.get o = some (o', φ) -> σ.inv o' = some o
 | [], _, _, _, _, h => by cases h
 | (a, b, ψ) :: r, hg, o, o', φ, h => by
  simp only [Sg.good, ba] at hg
  obtain ⟨⟨h1, h2⟩, h3⟩ := hg
  simp only [Sg.get] at h
  simp only [Sg.inv]
  cases hb : Nat.beq o a with
  | true =>
   simp_all
  | false =>
   rw [hb] at h
   have ih := Sg.inv_of_get h3 h
   grind [Nat.beq, bj]
theorem Sg.get_of_inv : ∀ {σ : Sg}, σ.good = true -> ∀ {o o' : Nat}, σ.inv o' = some o -> ∃ φ, σ.get o = some (o', φ)
 | [], _, _, _, h => by cases h
 | (a, b, ψ) :: r, hg, o, o', h => by
  simp only [Sg.good, ba] at hg
  obtain ⟨⟨h1, h2⟩, h3⟩ := hg
  simp only [Sg.inv] at h
  simp only [Sg.get]
  cases hb : Nat.beq o' b with
  | true =>
   simp_all
  | false =>
   rw [hb] at h
   obtain ⟨φ, ih⟩ := Sg.get_of_inv h3 h
   grind [Nat.beq, bj]
mutual
def AV.ren (σ : Sg) : AV -> Option AV
  | .undef => none
  | .d t x => some (.d t x)
  | .ip t x => some (.ip t x)
  | .op o p off => match σ.get o with | some (o', _) => some (.op o' p off) | none => none
  | .os o n => match σ.get o with | some (o', φ) => (match φ.app n with | some n' => some (.os o' n') | none => none) | none => none
  | .oe o n i => match σ.get o with | some (o', φ) => (match φ.app n with | some n' => some (.oe o' n' i) | none => none) | none => none
  | .ow o n i l => match σ.get o with | some (o', φ) => (match φ.app n with | some n' => some (.ow o' n' i l) | none => none) | none => none
  | .nils => some .nils
  | .emp => some .emp
  | .pr a b => match a.ren σ with | some a' => (match b.ren σ with | some b' => some (.pr a' b') | none => none) | none => none
  | .tup _ => none
  | .fn f first cap => match rens σ first with | some l => (match rens σ cap with | some l' => some (.fn f l l') | none => none) | none => none
  | .nilfn => some .nilfn
  | .iface t v => match v.ren σ with | some v' => some (.iface t v') | none => none
  | .nilif => some .nilif
  | .nilp => some .nilp
  | .ref o => match σ.get o with | some (o', _) => some (.ref o') | none => none
def rens (σ : Sg) : List AV -> Option (List AV)
  | [] => some []
  | a :: l => match a.ren σ with | some a' => (match rens σ l with | some l' => some (a' :: l') | none => none) | none => none
end
def HE (σ : Sg) : List (ak × AV) -> Option (List (ak × AV))
 | [] => some []
 | (k, a) :: l => match a.ren σ with | some a' => (match HE σ l with | some l' => some ((k, a') :: l') | none => none) | none => none
def Kk (σ : Sg) : List (Nat × AV) -> List (Nat × AV)
 | [] => []
 | (k, a) :: l => match a.ren σ with | some a' => (k, a') :: Kk σ l | none => Kk σ l
def dx.ren (σ : Sg) : dx -> Option dx
 | .map l => match HE σ l with | some l' => some (.map l') | none => none
 | .loop lc fr st => some (.loop lc (Kk σ fr) st)
theorem dx.ren_isMap {σ : Sg} {r r' : dx} (h : r.ren σ = some r') : r'.isMap = r.isMap := by
 cases r with
 | map l => simp only [dx.ren] at h; split at h <;> first | (cases h; rfl) | cases h
 | loop lc fr st => simp only [dx.ren] at h; cases h; rfl
def aj.ren (σ : Sg) (φ : ft) : aj -> Option aj
 | .rc r => match r.ren σ with | some r' => some (.rc r') | none => none
 | .box v => match v.ren σ with | some v' => some (.box v') | none => none
 | .arr T e m z xs => match φ.app m with | some m' => some (.arr T e m' z xs) | none => none
def ObR (φ : ft) : aj -> aj -> Prop
 | .box _, .box _ => True
 | .rc r, .rc r' => r'.isMap = r.isMap
 | .arr T e m z xs, ct => ∃ m', φ.app m = some m' /\ ct = .arr T e m' z xs
 | _, _ => False
theorem aj.ren_obR {σ : Sg} {φ : ft} {ob ct : aj} (h : ob.ren σ φ = some ct) : ObR φ ob ct := by
 cases ob with
 | box v =>
  simp only [aj.ren] at h
  cases hv : v.ren σ with
  | none => rw [hv] at h; cases h
  | some v' => rw [hv] at h; cases h; trivial
 | rc r =>
  simp only [aj.ren] at h
  cases hv : r.ren σ with
  | none => rw [hv] at h; cases h
  | some v' => rw [hv] at h; cases h; exact dx.ren_isMap hv
 | arr T e m z xs =>
  simp only [aj.ren] at h
  cases hm : φ.app m with
  | none => rw [hm] at h; cases h
  | some m' => rw [hm] at h; cases h; exact ⟨m', hm, rfl⟩
theorem AV.ren_agg {σ : Sg} (a a' : AV) (h : a.ren σ = some a') : a.isAgg = a'.isAgg := by
 cases a <;> simp only [AV.ren] at h
 case undef => cases h
 case tup => cases h
 case d => cases h; rfl
 case ip => cases h; rfl
 case nils => cases h; rfl
 case emp => cases h; rfl
 case nilfn => cases h; rfl
 case nilif => cases h; rfl
 case nilp => cases h; rfl
 all_goals (repeat' split at h) <;> first | (cases h; rfl) | cases h
structure n5 (σ : Sg) (μ bh : Mu) (hp bp : Hp) : Prop where
 ob : ∀ o o' φ, σ.get o = some (o', φ) -> bh o' = μ o /\ ∀ ob, hp o = some ob -> ∃ ct, bp o' = some ct /\ ObR φ ob ct
section
variable {w : World} {im : Nat -> Prop} {μ bh : Mu} {hp bp : Hp} {σ : Sg}
mutual
theorem RepA.ren (h : n5 σ μ bh hp bp) : ∀ (a a' : AV) (cs : List Value), a.ren σ = some a' -> RepA w im μ hp a cs -> RepA w im bh bp a' cs
  | .undef, _, _, e, _ => by simp only [AV.ren] at e; cases e
  | .d t x, _, cs, e, hr => by simp only [AV.ren] at e; cases e; simp only [RepA] at hr ⊢; exact hr
  | .ip t x, _, cs, e, hr => by simp only [AV.ren] at e; cases e; simp only [RepA] at hr ⊢; exact hr
  | .op o p off, a', cs, e, hr => by
    simp only [AV.ren] at e
    cases hg : σ.get o with
    | none => rw [hg] at e; cases e
    | some of =>
      obtain ⟨o', φ⟩ := of
      rw [hg] at e
      cases e
      simp only [RepA] at hr ⊢
      obtain ⟨b, v, h1, h2, h3⟩ := hr
      obtain ⟨g1, g2⟩ := h.ob o o' φ hg
      obtain ⟨ct, g3, g4⟩ := g2 _ h2
      cases ct with
      | box v' => exact ⟨b, v', g1.trans h1, g3, h3⟩
      | arr _ _ _ _ _ => exact g4.elim
      | rc _ => exact g4.elim
  | .os o n, a', cs, e, hr => by
    simp only [AV.ren] at e
    cases hg : σ.get o with
    | none => rw [hg] at e; cases e
    | some of =>
      obtain ⟨o', φ⟩ := of
      rw [hg] at e
      simp only at e
      cases hn : φ.app n with
      | none => rw [hn] at e; cases e
      | some n' =>
        rw [hn] at e
        cases e
        simp only [RepA] at hr ⊢
        obtain ⟨T, el, m, z, xs, h1, h2, v, h3, h4, h5⟩ := hr
        obtain ⟨g1, g2⟩ := h.ob o o' φ hg
        obtain ⟨ct, g3, m', g4, rfl⟩ := g2 _ h1
        obtain ⟨k1, k2⟩ := ft.mono hn g4 h2
        exact ⟨T, el, m', z, xs, g3, k1, v, h3, h4, fun hh => by rw [g1]; exact h5 (k2 hh)⟩
  | .oe o n i, a', cs, e, hr => by
    simp only [AV.ren] at e
    cases hg : σ.get o with
    | none => rw [hg] at e; cases e
    | some of =>
      obtain ⟨o', φ⟩ := of
      rw [hg] at e
      simp only at e
      cases hn : φ.app n with
      | none => rw [hn] at e; cases e
      | some n' =>
        rw [hn] at e
        cases e
        simp only [RepA] at hr ⊢
        obtain ⟨T, el, m, z, xs, h1, h2, v, h3, h4, h5⟩ := hr
        obtain ⟨g1, g2⟩ := h.ob o o' φ hg
        obtain ⟨ct, g3, m', g4, rfl⟩ := g2 _ h1
        obtain ⟨k1, k2⟩ := ft.mono hn g4 h2
        exact ⟨T, el, m', z, xs, g3, k1, v, h3, h4, fun hh => by rw [g1]; exact h5 (k2 hh)⟩
  | .ow o n i l, a', cs, e, hr => by
    simp only [AV.ren] at e
    cases hg : σ.get o with
    | none => rw [hg] at e; cases e
    | some of =>
      obtain ⟨o', φ⟩ := of
      rw [hg] at e
      simp only at e
      cases hn : φ.app n with
      | none => rw [hn] at e; cases e
      | some n' =>
        rw [hn] at e
        cases e
        simp only [RepA] at hr ⊢
        obtain ⟨T, el, m, z, xs, h1, h2, v, h3, h4, h5⟩ := hr
        obtain ⟨g1, g2⟩ := h.ob o o' φ hg
        obtain ⟨ct, g3, m', g4, rfl⟩ := g2 _ h1
        obtain ⟨k1, k2⟩ := ft.mono hn g4 h2
        exact ⟨T, el, m', z, xs, g3, k1, v, h3, h4, fun hh => by rw [g1]; exact h5 (k2 hh)⟩
  | .nils, _, cs, e, hr => by simp only [AV.ren] at e; cases e; simp only [RepA] at hr ⊢; exact hr
  | .emp, _, cs, e, hr => by simp only [AV.ren] at e; cases e; simp only [RepA] at hr ⊢; exact hr
  | .pr a b, a', cs, e, hr => by
    simp only [AV.ren] at e
    cases h1 : a.ren σ with
    | none => rw [h1] at e; cases e
    | some a1 =>
      rw [h1] at e
      simp only at e
      cases h2 : b.ren σ with
      | none => rw [h2] at e; cases e
      | some b1 =>
        rw [h2] at e
        cases e
        simp only [RepA] at hr ⊢
        obtain ⟨c1, c2, ec, g1, g2⟩ := hr
        exact ⟨c1, c2, ec, RepA.ren h a a1 c1 h1 g1, RepA.ren h b b1 c2 h2 g2⟩
  | .tup _, _, _, e, _ => by simp only [AV.ren] at e; cases e
  | .fn f first cap, a', cs, e, hr => by
    simp only [AV.ren] at e
    cases h1 : rens σ first with
    | none => rw [h1] at e; cases e
    | some a1 =>
      rw [h1] at e
      simp only at e
      cases h2 : rens σ cap with
      | none => rw [h2] at e; cases e
      | some b1 =>
        rw [h2] at e
        cases e
        simp only [RepA] at hr ⊢
        obtain ⟨vs, us, ec, g1, g2⟩ := hr
        exact ⟨vs, us, ec, RepFs.ren h first a1 vs h1 g1, RepFs.ren h cap b1 us h2 g2⟩
  | .nilfn, _, cs, e, hr => by simp only [AV.ren] at e; cases e; simp only [RepA] at hr ⊢; exact hr
  | .iface t v, a', cs, e, hr => by
    simp only [AV.ren] at e
    cases h1 : v.ren σ with
    | none => rw [h1] at e; cases e
    | some v1 =>
      rw [h1] at e
      cases e
      simp only [RepA] at hr ⊢
      obtain ⟨u, ec, g1, g2⟩ := hr
      exact ⟨u, ec, RepA.ren h v v1 _ h1 g1, g2.trans (AV.ren_agg v v1 h1)⟩
  | .nilif, _, cs, e, hr => by simp only [AV.ren] at e; cases e; simp only [RepA] at hr ⊢; exact hr
  | .nilp, _, cs, e, hr => by simp only [AV.ren] at e; cases e; simp only [RepA] at hr ⊢; exact hr
  | .ref o, a', cs, e, hr => by
    simp only [AV.ren] at e
    cases hg : σ.get o with
    | none => rw [hg] at e; cases e
    | some of =>
      obtain ⟨o', φ⟩ := of
      rw [hg] at e
      cases e
      simp only [RepA] at hr ⊢
      obtain ⟨b, r, h1, h2, h3⟩ := hr
      obtain ⟨g1, g2⟩ := h.ob o o' φ hg
      obtain ⟨ct, g3, g4⟩ := g2 _ h2
      cases ct with
      | rc r' =>
        have g5 : r'.isMap = r.isMap := g4
        exact ⟨b, r', g1.trans h1, g3, by rw [h3]; simp only [dx.val, g5]⟩
      | arr _ _ _ _ _ => exact g4.elim
      | box _ => exact g4.elim
theorem RepFs.ren (h : n5 σ μ bh hp bp) : ∀ (l l' : List AV) (vs : List Value), rens σ l = some l' -> RepFs w im μ hp l vs -> RepFs w im bh bp l' vs
  | [], _, vs, e, hr => by simp only [rens] at e; cases e; simp only [RepFs] at hr ⊢; exact hr
  | a :: l, l', vs, e, hr => by
    simp only [rens] at e
    cases h1 : a.ren σ with
    | none => rw [h1] at e; cases e
    | some a1 =>
      rw [h1] at e
      simp only at e
      cases h2 : rens σ l with
      | none => rw [h2] at e; cases e
      | some l1 =>
        rw [h2] at e
        cases e
        simp only [RepFs] at hr ⊢
        obtain ⟨v, us, ec, g1, g2, g3⟩ := hr
        exact ⟨v, us, ec, RepA.ren h a a1 _ h1 g1, g2.trans (AV.ren_agg a a1 h1), RepFs.ren h l l1 us h2 g3⟩
end
theorem ln.ren (h : n5 σ μ bh hp bp) : ∀ (l l' : List (ak × AV)) (es : List MapEntry), HE σ l = some l' -> ln w im μ hp l es -> ln w im bh bp l' es
 | [], _, es, e, hr => by simp only [HE] at e; cases e; exact hr
 | (k, a) :: l, l', es, e, hr => by
  simp only [HE] at e
  cases h1 : a.ren σ with
  | none => rw [h1] at e; cases e
  | some a1 =>
   rw [h1] at e
   simp only at e
   cases h2 : HE σ l with
   | none => rw [h2] at e; cases e
   | some l1 =>
    rw [h2] at e
    cases e
    obtain ⟨x, EW, g1, g2, g3, g4, g5⟩ := hr
    exact ⟨x, EW, g1, g2, RepA.ren h a a1 _ h1 g3, g4.trans (AV.ren_agg a a1 h1), ln.ren h l l1 EW h2 g5⟩
theorem bo.ren (h : n5 σ μ bh hp bp) {a a' : AV} {v : Value} (e : a.ren σ = some a') (hr : bo w im μ hp a v) : bo w im bh bp a' v := by
 have key : ∀ {b : AV}, RepA w im μ hp b v.cells.toList -> aY v = b.isAgg -> b.ren σ = some a' -> bo w im bh bp a' v := fun {b} h1 h2 e => by
  have h3 := RepA.ren h b a' _ e h1
  have h4 := h2.trans (AV.ren_agg b a' e)
  cases a' <;> first
   | exact ⟨h3, h4⟩
   | trivial
   | (simp only [RepA] at h3)
 cases a <;> first
  | (simp only [AV.ren] at e; cases e; done)
  | exact key hr.1 hr.2 e
theorem rY (h : n5 σ μ bh hp bp) {tmps : Array Value} : ∀ {l : List (Nat × AV)}, (∀ p ∈ l, bo w im μ hp p.2 (tmps.getD p.1 Go.undef)) -> ∀ p ∈ Kk σ l, bo w im bh bp p.2 (tmps.getD p.1 Go.undef)
 | [], _ => fun p hp => by cases hp
 | (k, a) :: l, hr => by
  intro p hp
  simp only [Kk] at hp
  cases h1 : a.ren σ with
  | none =>
   rw [h1] at hp
   exact rY h (fun q hq => hr q (by simp [hq])) p hp
  | some a1 =>
   rw [h1] at hp
   rcases List.mem_cons.1 hp with rfl | hp
   ·exact bo.ren h h1 (hr (k, a) (by simp))
   ·exact rY h (fun q hq => hr q (by simp [hq])) p hp
theorem wS.ren (h : n5 σ μ bh hp bp) {r r' : dx} {x : Obj} (e : r.ren σ = some r') (hr : wS w im μ hp r x) : wS w im bh bp r' x := by
 cases r with
 | map l =>
  simp only [dx.ren] at e
  split at e
  ·rename_i l' hl
   cases e
   obtain ⟨es, clock, h1, h2⟩ := hr
   exact ⟨es, clock, h1, ln.ren h _ _ _ hl h2⟩
  ·cases e
 | loop lc fr st =>
  simp only [dx.ren] at e
  cases e
  obtain ⟨r, h1, h2, h3, h4, h5, h6, h7⟩ := hr
  exact ⟨r, h1, h2, h3, h4, h5, rY h h6, h7⟩
end
end Go.Vm
