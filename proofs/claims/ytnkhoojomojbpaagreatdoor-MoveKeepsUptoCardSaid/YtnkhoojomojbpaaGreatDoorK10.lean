/- Part J of the abstract machine: functions that are handed objects, and hand some back; the call of one; a function's body; a state under other names. -/
import Derived.Test.YtnkhoojomojbpaaGreatDoorK9
namespace Go.Vm
inductive aq where
 | ret (l : List AV)
 | panic (t : TypeId) (n : Int)
def j5 (w : World) (im : Nat -> Prop) (μ : Mu) (hp : Hp) : aq -> Ending -> Prop
 | .ret [a], e => ∃ v, e = .returned v /\ RepA w im μ hp a v.cells.toList /\ aY v = a.isAgg
 | .ret l, e => ∃ vs : List Value, e = .returned (.tuple vs.toArray) /\ RepFs w im μ hp l vs
 | .panic t n, e => e = .panicked [{ v := .iface t (.int .i64 n), recovered := false }]
structure jR (w : World) (im : Nat -> Prop) (μ : Mu) (hp : Hp) : Prop where
 sep : ∀ o b, (μ o).blk = some b -> ¬ im b /\ b < w.heap.size
 inj : ∀ o o' b, (μ o).blk = some b -> (μ o').blk = some b -> o = o'
 dom : ∀ o, hp o = none -> μ o = .none
 obj : ∀ o ob, hp o = some ob -> il w im μ hp (μ o) ob
structure dc (W : World) (im : Nat -> Prop) (μ : Mu) (h0 : Hp) (w' : World) (bI : Nat -> Prop) (bh : Mu) (h1 : Hp) : Prop where
 os : w'.os = W.os
 tape : w'.tape = W.tape
 output : w'.output = W.output
 grow : W.heap.size <= w'.heap.size
 old : ∀ b, b < W.heap.size -> (∀ o, (μ o).blk ≠ some b) -> w'.heap[b]? = W.heap[b]?
 imSub : ∀ b, im b -> bI b
 imNew : ∀ b, bI b -> im b \/ (∃ o, (μ o).blk = some b) \/ W.heap.size <= b
 imLt : ∀ b, bI b -> b < w'.heap.size
 own : ∀ o b, (bh o).blk = some b -> (∃ o0, (μ o0).blk = some b) \/ W.heap.size <= b
 fob : ∀ o ob, h0 o = some ob -> ∃ ct, h1 o = some ct /\ cA ob (μ o) ct (bh o)
 inv : jR w' bI bh h1
def kT (Γ : Nat -> Option AV) (W : World) (im : Nat -> Prop) : Prop := ∀ g v, Γ g = some v -> bo W im (fun _ => .none) (fun _ => none) v (.pointer (some ⟨g, 0, none⟩))
def FnH (P : Program) (Γ : Nat -> Option AV) (f : FuncId) (args : List AV) (h0 : Hp) (R : aq -> Hp -> Prop) : Prop :=
 (∀ (vs : Array Value) (w : World), (callFunc f vs).run P w = .ok (.enter f vs) w) /\
 ∀ (W : World) (im : Nat -> Prop) (μ : Mu) (vals : List Value), (∀ b, im b -> b < W.heap.size) -> kT Γ W im -> jR W im μ h0 -> RepFs W im μ h0 args vals ->
  Calls P f vals.toArray W fun e w' => ∃ ae h1 bI bh, R ae h1 /\ dc W im μ h0 w' bI bh h1 /\ j5 w' bI bh h1 ae e
def rZ : List AV -> AV
 | [a] => a
 | l => .tup l
theorem r5 {w : World} {im : Nat -> Prop} {μ : Mu} {hp : Hp} {l : List AV} {e : Ending} (h : j5 w im μ hp (.ret l) e) : ∃ v, e = .returned v /\ ∃ vs, RepFs w im μ hp l vs /\ v = (if h : vs.toArray.size = 1 then vs.toArray[0] else .tuple vs.toArray) := by
 match l, h with
 | [a], h =>
  obtain ⟨v, he, h1, h2⟩ := h
  exact ⟨v, he, [v], by simp only [RepFs]; exact ⟨v, [], rfl, h1, h2, rfl⟩, rfl⟩
 | [], h =>
  obtain ⟨vs, he, h1⟩ := h
  grind [RepFs]
 | a :: b :: l, h =>
  obtain ⟨vs, he, h1⟩ := h
  grind [RepFs]
theorem HF {w : World} {im : Nat -> Prop} {μ : Mu} {hp : Hp} {l : List AV} {vs : List Value} (h : RepFs w im μ hp l vs) : bo w im μ hp (rZ l) (if h : vs.toArray.size = 1 then vs.toArray[0] else .tuple vs.toArray) := by
 match l, h with
 | [a], h =>
  simp only [RepFs] at h
  obtain ⟨v, us, rfl, h1, h2, rfl⟩ := h
  exact bo.ofA h1 h2
 | [], h =>
  have h2 := h
  simp only [RepFs] at h2
  subst h2
  exact ⟨[], rfl, h⟩
 | a :: b :: l, h =>
  have h2 := h
  simp only [RepFs] at h2
  obtain ⟨v, us, rfl, _, _, v', us', rfl, _⟩ := h2
  exact ⟨_, by simp, h⟩
section
variable {P : Program} {C : Ctx}
structure cu (σ : Sg) (hp h0 : Hp) : Prop where
 good : σ.good = true
 fwd : ∀ o o' φ, σ.get o = some (o', φ) -> ∃ ob ct, hp o = some ob /\ ob.ren σ φ = some ct /\ h0 o' = some ct
 dom : ∀ o', σ.inv o' = none -> h0 o' = none
structure n6 (σ cI : Sg) (hp H1 : Hp) (wr : List (Nat × aj)) : Prop where
 good : cI.good = true
 bwd : ∀ o' o φ, cI.get o' = some (o, φ) -> ∃ ob ct, H1 o' = some ob /\ ob.ren cI φ = some ct /\ aG hp wr o = some ct
 passed : ∀ o o' φ, σ.get o = some (o', φ) -> ∃ wP, cI.get o' = some (o, wP) /\ ∀ m v, φ.app m = some v -> wP.app v = some m
 fresh : ∀ o' o φ, cI.get o' = some (o, φ) -> σ.inv o' = some o \/ (σ.inv o' = none /\ hp o = none)
 keys : ∀ o, o ∈ wr.map (·.1) -> ∃ o' φ, cI.get o' = some (o, φ)
theorem ft.smono {φ : ft} {a b a' b' : Nat} (ha : φ.app a = some a') (hb : φ.app b = some b') (h : a < b) : a' < b' := by
 have h1 := ft.mono ha hb (Nat.le_of_lt h)
 omega
open Classical in
noncomputable def ff (σ : Sg) (μ : Mu) : Mu := fun o' => match σ.inv o' with | some o => μ o | none => .none
open Classical in
noncomputable def gw (cI : Sg) (bh μ : Mu) : Mu := fun o => match cI.inv o with | some o' => bh o' | none => μ o
theorem il.ren {w : World} {im : Nat -> Prop} {μ bh : Mu} {hp bp : Hp} {σ : Sg} {φ : ft} {pl : Pl} {ob ct : aj} (h : n5 σ μ bh hp bp) (e : ob.ren σ φ = some ct) (hr : il w im μ hp pl ob) : il w im bh bp pl ct := by
 cases ob with
 | box v =>
  simp only [aj.ren] at e
  cases hv : v.ren σ with
  | none => rw [hv] at e; cases e
  | some v' =>
   rw [hv] at e; cases e
   obtain ⟨b, cells, T, h1, h2, h3⟩ := hr
   exact ⟨b, cells, T, h1, h2, RepA.ren h v v' _ hv h3⟩
 | rc r =>
  simp only [aj.ren] at e
  cases hv : r.ren σ with
  | none => rw [hv] at e; cases e
  | some r' =>
   rw [hv] at e; cases e
   obtain ⟨b, x, h1, h2, h3⟩ := hr
   exact ⟨b, x, h1, h2, wS.ren h hv h3⟩
 | arr T el m z xs =>
  simp only [aj.ren] at e
  cases hm : φ.app m with
  | none => rw [hm] at e; cases e
  | some m' => rw [hm] at e; cases e; exact hr
theorem cu.inv {σ : Sg} {hp h0 : Hp} (H : cu σ hp h0) {w : World} {im : Nat -> Prop} {μ : Mu} (hsep : ∀ o b, (μ o).blk = some b -> ¬ im b /\ b < w.heap.size) (hinj : ∀ o o' b, (μ o).blk = some b -> (μ o').blk = some b -> o = o')
  (hobj : ∀ o ob, hp o = some ob -> il w im μ hp (μ o) ob) : jR w im (ff σ μ) h0 /\ n5 σ μ (ff σ μ) hp h0 := by
 have hmu : ∀ o o' φ, σ.get o = some (o', φ) -> ff σ μ o' = μ o := fun o o' φ h => by
  simp only [ff, Sg.inv_of_get H.good h]
 have hsg : n5 σ μ (ff σ μ) hp h0 := ⟨fun o o' φ h => ⟨hmu o o' φ h, fun ob dK => by
  obtain ⟨na, ct, h1, h2, h3⟩ := H.fwd o o' φ h
  rw [dK] at h1
  cases h1
  exact ⟨ct, h3, aj.ren_obR h2⟩⟩⟩
 have hblk : ∀ o' b, (ff σ μ o').blk = some b -> ∃ o, σ.inv o' = some o /\ (μ o).blk = some b := fun o' b h => by
  unfold ff at h
  cases hi : σ.inv o' with
  | none => rw [hi] at h; cases h
  | some o => rw [hi] at h; exact ⟨o, rfl, h⟩
 refine ⟨⟨?_, ?_, ?_, ?_⟩, hsg⟩
 ·intro o' b h
  obtain ⟨o, _, h2⟩ := hblk o' b h
  exact hsep o b h2
 ·intro o1 o2 b h1 h2
  obtain ⟨p1, g1, k1⟩ := hblk o1 b h1
  obtain ⟨p2, g2, k2⟩ := hblk o2 b h2
  obtain rfl := hinj p1 p2 b k1 k2
  obtain ⟨φ1, e1⟩ := Sg.get_of_inv H.good g1
  obtain ⟨φ2, e2⟩ := Sg.get_of_inv H.good g2
  rw [e1] at e2; cases e2; rfl
 ·intro o' h
  unfold ff
  cases hi : σ.inv o' with
  | none => rfl
  | some o =>
   obtain ⟨φ, e⟩ := Sg.get_of_inv H.good hi
   obtain ⟨_, ct, _, _, h3⟩ := H.fwd o o' φ e
   rw [h] at h3; cases h3
 ·intro o' ct h
  cases hi : σ.inv o' with
  | none => rw [H.dom o' hi] at h; cases h
  | some o =>
   obtain ⟨φ, e⟩ := Sg.get_of_inv H.good hi
   obtain ⟨ob, na, h1, h2, h3⟩ := H.fwd o o' φ e
   rw [h] at h3
   cases h3
   rw [hmu o o' φ e]
   exact il.ren hsg h2 (hobj o ob h1)
theorem Inv.backE {im bI : Nat -> Prop} {μ bh : Mu} {s1 : ASt} {a : Act} {w w' : World} {σ cI : Sg} {h0 H1 : Hp} {wr : List (Nat × aj)} (hi : Inv C im μ s1 a w) (H : cu σ s1.hp h0) (B : n6 σ cI s1.hp H1 wr)
  (S : dc w im (ff σ μ) h0 w' bI bh H1) {dst : Option Nat} (hd : ∀ d, dst = some d -> d < C.n) {av : AV} {v : Value} (hv : bo w' bI (gw cI bh μ) (aG s1.hp wr) av v) :
  Inv C bI (gw cI bh μ) ⟨(s1.put dst av).fr, aG s1.hp wr⟩ (a.put dst v) w' /\ Ev w im μ s1.hp w' bI (gw cI bh μ) (aG s1.hp wr) := by
 have C0 : ∀ o o' φ, σ.get o = some (o', φ) -> ff σ μ o' = μ o := fun o o' φ h => by simp only [ff, Sg.inv_of_get H.good h]
 have hinb : ∀ o' b, (ff σ μ o').blk = some b -> ∃ o φ, σ.get o = some (o', φ) /\ (μ o).blk = some b := fun o' b h => by
  unfold ff at h
  cases hq : σ.inv o' with
  | none => rw [hq] at h; cases h
  | some o =>
   rw [hq] at h
   obtain ⟨φ, e⟩ := Sg.get_of_inv H.good hq
   exact ⟨o, φ, e, h⟩
 have hout : ∀ o' o φ, cI.get o' = some (o, φ) -> gw cI bh μ o = bh o' := fun o' o φ h => by simp only [gw, Sg.inv_of_get B.good h]
 have houtN : ∀ o, cI.inv o = none -> gw cI bh μ o = μ o := fun o h => by simp only [gw, h]
 have hkeep : ∀ o, cI.inv o = none -> aG s1.hp wr o = s1.hp o := fun o h => dL (fun hm => by
  obtain ⟨o', φ, e⟩ := B.keys o hm
  rw [Sg.inv_of_get B.good e] at h; cases h)
 have hpas : ∀ o o' φ, σ.get o = some (o', φ) -> cI.inv o = some o' := fun o o' φ h => by
  obtain ⟨wP, e, _⟩ := B.passed o o' φ h
  exact Sg.inv_of_get B.good e
 have hsg' : n5 cI bh (gw cI bh μ) H1 (aG s1.hp wr) := ⟨fun o' o φ h => ⟨hout o' o φ h, fun ob dK => by
  obtain ⟨na, ct, h1, h2, h3⟩ := B.bwd o' o φ h
  rw [dK] at h1; cases h1
  exact ⟨ct, h3, aj.ren_obR h2⟩⟩⟩
 have ev : Ev w im μ s1.hp w' bI (gw cI bh μ) (aG s1.hp wr) := by
  refine ⟨S.imSub, fun b hb => S.old b (hi.imLt b hb) (fun o' dS => ?_), fun o ob ho => ?_⟩
  ·obtain ⟨o, _, _, h⟩ := hinb o' b dS
   exact (hi.sep o b h).1 hb
  ·cases hq : cI.inv o with
   | none => exact ⟨ob, by rw [hkeep o hq]; exact ho, by rw [houtN o hq]; exact cA.refl _ _⟩
   | some o' =>
    obtain ⟨wP, e'⟩ := Sg.get_of_inv B.good hq
    obtain ⟨na, rF, h1, h2, h3⟩ := B.bwd o' o wP e'
    rcases B.fresh o' o wP e' with hf | ⟨_, hf⟩
    ·obtain ⟨φ, e⟩ := Sg.get_of_inv H.good hf
     obtain ⟨obc, obc', g1, g2, g3⟩ := H.fwd o o' φ e
     rw [ho] at g1; cases g1
     obtain ⟨ob1', k1, k2⟩ := S.fob o' _ g3
     rw [h1] at k1; cases k1
     rw [C0 o o' φ e] at k2
     refine ⟨rF, h3, ?_⟩
     rw [hout o' o wP e']
     obtain ⟨φ'', e'', hr⟩ := B.passed o o' φ e
     rw [e'] at e''; cases e''
     cases ob with
     | box v =>
      simp only [aj.ren] at g2
      cases P1 : v.ren σ with
      | none => rw [P1] at g2; cases g2
      | some v' =>
       rw [P1] at g2; cases g2
       cases na with
       | arr _ _ _ _ _ => exact k2.elim
       | rc _ => exact k2.elim
       | box u =>
        simp only [aj.ren] at h2
        cases hu : u.ren cI with
        | none => rw [hu] at h2; cases h2
        | some u' => rw [hu] at h2; cases h2; exact k2
     | rc v =>
      simp only [aj.ren] at g2
      cases P1 : v.ren σ with
      | none => rw [P1] at g2; cases g2
      | some v' =>
       rw [P1] at g2; cases g2
       cases na with
       | arr _ _ _ _ _ => exact k2.elim
       | box _ => exact k2.elim
       | rc u =>
        simp only [aj.ren] at h2
        cases hu : u.ren cI with
        | none => rw [hu] at h2; cases h2
        | some u' =>
         rw [hu] at h2; cases h2
         exact ⟨k2.1, (dx.ren_isMap hu).trans (k2.2.trans (dx.ren_isMap P1))⟩
     | arr T el m z xs =>
      simp only [aj.ren] at g2
      cases hm : φ.app m with
      | none => rw [hm] at g2; cases g2
      | some v0 =>
       rw [hm] at g2; cases g2
       obtain ⟨m1, z1, ys, rfl, k3⟩ := k2
       simp only [aj.ren] at h2
       cases C1 : wP.app m1 with
       | none => rw [C1] at h2; cases h2
       | some m2 =>
        rw [C1] at h2; cases h2
        refine ⟨m2, z1, ys, rfl, ?_⟩
        have hb0 := hr m v0 hm
        rcases k3 with ⟨q1, q2, q3⟩ | q1
        ·subst q1
         rw [hb0] at C1; cases C1
         exact .inl ⟨rfl, q2, q3⟩
        ·exact .inr (ft.smono hb0 C1 q1)
    ·rw [hf] at ho; cases ho
 refine ⟨hi.step ev S.os S.tape S.output S.grow ?_ ?_ S.imLt ?_ ?_ ?_ ?_ dst hd av v hv, ev⟩
 ·intro b hb hno
  exact S.old b hb (fun o' dS => by
   obtain ⟨o, _, _, h⟩ := hinb o' b dS
   exact hno o h)
 ·intro b hb
  rcases S.imNew b hb with h | ⟨o', h⟩ | h
  ·exact .inl h
  ·obtain ⟨o, _, _, h⟩ := hinb o' b h
   exact .inr (.inl ⟨o, h⟩)
  ·exact .inr (.inr h)
 ·intro o b hb
  cases hq : cI.inv o with
  | none =>
   rw [houtN o hq] at hb
   obtain ⟨g1, g2, _⟩ := hi.sep o b hb
   refine ⟨fun hc => ?_, Nat.lt_of_lt_of_le g2 S.grow, .inl ⟨o, hb⟩⟩
   rcases S.imNew b hc with h | ⟨o', h⟩ | h
   ·exact g1 h
   ·obtain ⟨o1, φ1, e1, h1⟩ := hinb o' b h
    obtain rfl := hi.inj _ _ b h1 hb
    rw [hpas _ _ _ e1] at hq; cases hq
   ·omega
  | some o' =>
   obtain ⟨wP, e'⟩ := Sg.get_of_inv B.good hq
   rw [hout o' o wP e'] at hb
   obtain ⟨g1, g2⟩ := S.inv.sep o' b hb
   refine ⟨g1, g2, ?_⟩
   rcases S.own o' b hb with ⟨o0, h⟩ | h
   ·obtain ⟨o1, _, _, h1⟩ := hinb o0 b h
    exact .inl ⟨o1, h1⟩
   ·exact .inr h
 ·intro o1 o2 b h1 h2
  have mixed : ∀ x y, cI.inv x = none -> (∃ y', cI.inv y = some y') -> (gw cI bh μ x).blk = some b -> (gw cI bh μ y).blk = some b -> False := by
   intro x y hx ⟨y', hy⟩ hbx hby
   rw [houtN x hx] at hbx
   obtain ⟨wP, e'⟩ := Sg.get_of_inv B.good hy
   rw [hout y' y wP e'] at hby
   rcases S.own y' b hby with ⟨o0, h⟩ | h
   ·obtain ⟨o1', φ1, e1, k1⟩ := hinb o0 b h
    obtain rfl := hi.inj _ _ b k1 hbx
    rw [hpas _ _ _ e1] at hx; cases hx
   ·have := (hi.sep x b hbx).2.1; omega
  cases hq1 : cI.inv o1 with
  | none =>
   cases Hs : cI.inv o2 with
   | none =>
    rw [houtN o1 hq1] at h1; rw [houtN o2 Hs] at h2
    exact hi.inj _ _ b h1 h2
   | some y => exact (mixed o1 o2 hq1 ⟨y, Hs⟩ h1 h2).elim
  | some x =>
   cases Hs : cI.inv o2 with
   | none => exact (mixed o2 o1 Hs ⟨x, hq1⟩ h2 h1).elim
   | some y =>
    obtain ⟨φ1, e1⟩ := Sg.get_of_inv B.good hq1
    obtain ⟨φ2, e2⟩ := Sg.get_of_inv B.good Hs
    rw [hout _ _ _ e1] at h1; rw [hout _ _ _ e2] at h2
    obtain rfl := S.inv.inj _ _ b h1 h2
    rw [e1] at e2; cases e2; rfl
 ·intro o ho
  cases hq : cI.inv o with
  | none => rw [hkeep o hq] at ho; rw [houtN o hq]; exact hi.dom o ho
  | some o' =>
   obtain ⟨wP, e'⟩ := Sg.get_of_inv B.good hq
   obtain ⟨_, ct, _, _, h3⟩ := B.bwd o' o wP e'
   rw [ho] at h3; cases h3
 ·intro o ob ho
  cases hq : cI.inv o with
  | none =>
   rw [hkeep o hq] at ho
   rw [houtN o hq]
   refine (hi.obj o ob ho).ev ev (fun b hb => S.old b (hi.sep o b hb).2.1 (fun o' dS => ?_))
   obtain ⟨o1, φ1, e1, k1⟩ := hinb o' b dS
   obtain rfl := hi.inj _ _ b k1 hb
   rw [hpas _ _ _ e1] at hq; cases hq
  | some o' =>
   obtain ⟨wP, e'⟩ := Sg.get_of_inv B.good hq
   obtain ⟨na, ct, h1, h2, h3⟩ := B.bwd o' o wP e'
   rw [ho] at h3; cases h3
   rw [hout o' o wP e']
   exact il.ren hsg' h2 (S.inv.obj o' na h1)
theorem Inv.back {im bI : Nat -> Prop} {μ bh : Mu} {s1 : ASt} {a : Act} {w w' : World} {σ cI : Sg} {h0 H1 : Hp} {wr : List (Nat × aj)} (hi : Inv C im μ s1 a w) (H : cu σ s1.hp h0) (B : n6 σ cI s1.hp H1 wr)
  (S : dc w im (ff σ μ) h0 w' bI bh H1) {dst : Option Nat} (hd : ∀ d, dst = some d -> d < C.n) {av : AV} {v : Value} (hv : bo w' bI (gw cI bh μ) (aG s1.hp wr) av v) :
  Inv C bI (gw cI bh μ) ⟨(s1.put dst av).fr, aG s1.hp wr⟩ (a.put dst v) w' := (hi.backE H B S hd hv).1
end
end Go.Vm
