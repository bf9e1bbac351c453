/- Part S of the abstract machine: the executor of a function, sound: FnE.OK. -/
import Derived.Test.YtnkhoojomojbpaaGreatDoorK20
namespace Go.Vm
universe u
variable {R : Type}
section
variable {P : Program} {C : Ctx}
theorem KM {s : ASt} {im : Nat -> Prop} {μ : Mu} {a : Act} {w : World} {σ : Sg} {h1 : Hp} (hi : Inv C im μ s a w) (hS : n5 σ μ (ff σ μ) s.hp h1) (hpin : ∀ o ob, C.h0 o = some ob -> σ.get o = some (o, .keep)) :
  ∀ o ob, C.h0 o = some ob -> ∃ ct, h1 o = some ct /\ cA ob (C.μ0 o) ct (ff σ μ o) := by
 intro o ob h
 have hσ := hpin o ob h
 obtain ⟨na, h1, h2⟩ := hi.pin o ob h
 obtain ⟨g1, g2⟩ := hS.ob o o .keep hσ
 obtain ⟨rF, h3, h4⟩ := g2 na h1
 refine ⟨rF, h3, ?_⟩
 rw [g1]
 cases na with
 | box v =>
  cases rF with
  | arr _ _ _ _ _ => exact h4.elim
  | rc _ => exact h4.elim
  | box v2 =>
   cases ob with
   | box v0 => exact h2
   | rc _ => exact h2.elim
   | arr T e m z xs => obtain ⟨_, _, _, h5, _⟩ := h2; cases h5
 | rc v =>
  cases rF with
  | arr _ _ _ _ _ => exact h4.elim
  | box _ => exact h4.elim
  | rc v2 =>
   cases ob with
   | box v0 => exact h2.elim
   | rc _ => exact ⟨h2.1, (show v2.isMap = v.isMap from h4).trans h2.2⟩
   | arr T e m z xs => obtain ⟨_, _, _, h5, _⟩ := h2; cases h5
 | arr T e m z xs =>
  obtain ⟨m', h5, rfl⟩ := h4
  cases h5
  exact h2
theorem Inv.hpStepV {W : World} {im bI : Nat -> Prop} {μ bh : Mu} {h0 h1 : Hp} {Γ : Nat -> Option AV} {ds : List Deferred} {n : Nat} {rd : Option Nat} {nm : Bool} {s : ASt} {a : Act} {w : World} {σ : Sg} (hi : Inv ⟨W, im, fun b => ∃ o, (μ o).blk = some b, n, ds, Γ, h0, μ, rd, nm⟩ bI bh s a w)
  (H : cu σ s.hp h1) (hpin : ∀ o ob, h0 o = some ob -> σ.get o = some (o, .keep)) : dc W im μ h0 w bI (ff σ bh) h1 /\ n5 σ bh (ff σ bh) s.hp h1 := by
 obtain ⟨hI, hS⟩ := H.inv (fun o b h => ⟨(hi.sep o b h).1, (hi.sep o b h).2.1⟩) hi.inj hi.obj
 refine ⟨⟨hi.os, hi.tape, hi.output, hi.grow, fun b hb hno => hi.old b hb (fun ⟨o, ho⟩ => hno o ho), hi.imC, hi.imNew, hi.imLt, fun o b h => ?_, KM hi hS hpin, hI⟩, hS⟩
 unfold ff at h
 cases hq : σ.inv o with
 | none => rw [hq] at h; cases h
 | some o1 => rw [hq] at h; exact (hi.sep o1 b h).2.2
def V3 (P : Program) (fn : Func) (h0 : Hp) (R : aq -> Hp -> Prop) : AEx -> ASt -> Prop
 | .normal, s | .ret, s => ∃ rs σ h1 fQ, j7 P s fn.results.toList rs /\ cu σ s.hp h1 /\ rens σ rs = some fQ /\ (∀ o ob, h0 o = some ob -> σ.get o = some (o, .keep)) /\ R (.ret fQ) h1
 | .panic t n, s => ∃ σ h1, cu σ s.hp h1 /\ (∀ o ob, h0 o = some ob -> σ.get o = some (o, .keep)) /\ R (.panic t n) h1
 | .exit _, _ => False
theorem DL {Γ : Nat -> Option AV} {f : FuncId} {fn : Func} {c : Code} {args : List AV} {h0 : Hp} {R : aq -> Hp -> Prop} (hf : P.funcs[f]? = some fn) (hb : fn.body = some c) (hcall : ∀ (vs : Array Value) (w : World), (callFunc f vs).run P w = .ok (.enter f vs) w) (hgf : ∀ g v, Γ g = some v -> v.free = true)
  (hn : args.length <= fn.ntmps) (h : ∀ W im μ, AW P (zQ W im μ h0 fn.ntmps Γ) c (V3 P fn h0 R) ⟨jo args, h0⟩) : FnH P Γ f args h0 R := by
 refine ⟨hcall, fun W im μ vals iC hglob hI hargs => ?_⟩
 refine callsIn_wide.1 (callsIn_of_wp_marks (F := Fence.wide) (n := 0) hf hb trivial ?_)
 have hinv := r6 iC hgf hglob hI hargs hn
 refine wpIn_mono (h W im μ _ _ ⟨im, μ, hinv⟩) ?_
 rintro e a w ⟨ae, s, rfl, hq, PH, E0, hi⟩
 obtain ⟨ms, hd, hm⟩ := hi.defers
 have hlv : ∀ u, u ≠ .run -> (∀ w', Xx ms w w' -> LeavesInM Fence.wide 0 P fn a.tmps (fun e w' => ∃ ae h1 bI bh, R ae h1 /\ dc W im μ h0 w' bI bh h1 /\ j5 w' bI bh h1 ae e) [] u w') ->
   LeavesInM Fence.wide 0 P fn a.tmps (fun e w' => ∃ ae h1 bI bh, R ae h1 /\ dc W im μ h0 w' bI bh h1 /\ j5 w' bI bh h1 ae e) a.defers u w := fun u hu hh => by
  rw [hd]
  exact n7 hu ms w hm.nodup (fun r hr => (hm.all r hr).2.2.2.2) hh
 have hret : (∃ rs σ h1 fQ, j7 P s fn.results.toList rs /\ cu σ s.hp h1 /\ rens σ rs = some fQ /\ (∀ o ob, h0 o = some ob -> σ.get o = some (o, .keep)) /\ R (.ret fQ) h1) ->
   LeavesInM Fence.wide 0 P fn a.tmps (fun e w' => ∃ ae h1 bI bh, R ae h1 /\ dc W im μ h0 w' bI bh h1 /\ j5 w' bI bh h1 ae e) a.defers .returning w := by
  rintro ⟨rs, σ, h1, fQ, hra, hH, u7, hpin, hR⟩
  refine hlv _ (by simp) fun w' hs => ?_
  have fc := hi.unmark hm hs
  obtain ⟨vs, g1, g2⟩ := jS fc hra
  obtain ⟨kf, hS⟩ := fc.hpStepV hH hpin
  obtain ⟨v, g3, g4⟩ := qi (fn := fn) g1 (RepFs.ren hS _ _ _ u7 g2)
  exact ⟨v, g3, .ret fQ, h1, PH, _, hR, kf, g4⟩
 cases ae with
 | normal => exact hret hq
 | ret => exact hret hq
 | exit id => exact hq.elim
 | panic t n =>
  obtain ⟨σ, h1, hH, hpin, hR⟩ := hq
  refine hlv _ (by simp) fun w' hs => ?_
  obtain ⟨kf, _⟩ := (hi.unmark hm hs).hpStepV hH hpin
  exact ⟨.panic t n, h1, PH, _, hR, kf, rfl⟩
end
def nK (P : Program) (s : LSt) : List ResultVar -> Option (List AV)
 | [] => some []
 | .tmp t :: l => bif (s.fr.get t).plain then (match nK P s l with | some r => some (s.fr.get t :: r) | none => none) else none
 | .cell t T :: l =>
  (match s.fr.get t with
  | .op o [] 0 =>
   (match aA s.hp o with
   | some (.box a) => bif si P T a.asize a.isAgg then (match nK P s l with | some r => some (a :: r) | none => none) else none
   | _ => none)
  | _ => none)
theorem rh {P : Program} {s : LSt} : ∀ {l : List ResultVar} {rs : List AV}, nK P s l = some rs -> j7 P s.toA l rs
 | [], rs, h => by cases h; exact .nil
 | .tmp t :: l, rs, h => by
  simp only [nK] at h
  cases hp : (s.fr.get t).plain with
  | false => rw [hp] at h; cases h
  | true =>
   rw [hp] at h
   simp only [ai] at h
   split at h
   ·rename_i r hr; cases h; exact .tmp rfl hp (rh hr)
   ·cases h
 | .cell t T :: l, rs, h => by
  simp only [nK] at h
  split at h
  ·rename_i o ho
   split at h
   ·rename_i a ha
    cases hb : si P T a.asize a.isAgg with
    | false => rw [hb] at h; cases h
    | true =>
     rw [hb] at h
     simp only [ai] at h
     split at h
     ·rename_i r hr; cases h; exact .cell ho ha (kj hb) (rh hr)
     ·cases h
   ·cases h
  ·cases h
def fin (base : Nat) (hp : LHp) (rs : List AV) (k : List AV -> LHp -> Option R) : Option R :=
 let σ := xw hp base (refsL rs)
 bif σ.good && nJ σ base then
  (match rens σ rs with
  | some fQ => (match jO hp σ σ with | some h1 => k fQ h1 | none => none)
  | none => none)
 else none
theorem sL {base : Nat} {hp : LHp} {rs : List AV} {k : List AV -> LHp -> Option R} {r : R} (h : fin base hp rs k = some r) :
  ∃ σ h1 fQ, cu σ (aA hp) (aA h1) /\ rens σ rs = some fQ /\ (∀ o, o < base -> σ.get o = some (o, .keep)) /\ k fQ h1 = some r := by
 unfold fin at h
 simp only at h
 generalize xw hp base (refsL rs) = σ at h
 cases hb : σ.good && nJ σ base with
 | false => rw [hb] at h; cases h
 | true =>
  rw [hb] at h
  simp only [ba] at hb
  grind [gJ, lT]
def number : Nat -> List AV -> List (Nat × AV)
 | _, [] => []
 | i, a :: l => (i, a) :: number (i + 1) l
def cj (n : Nat) : LHp -> Bool
 | [] => true
 | (o, _) :: r => Nat.blt o n && cj n r
theorem cb {n : Nat} : ∀ {l : LHp}, cj n l = true -> ∀ o ob, aA l o = some ob -> o < n
 | [], _, _, _, h => by cases h
 | (a, b) :: r, hb, o, ob, h => by
  simp only [cj, ba] at hb
  simp only [aA] at h
  cases hq : Nat.beq a o with
  | true => rw [← bj hq]; exact Nat.le_of_ble_eq_true hb.1
  | false => rw [hq] at h; exact cb hb.2 o ob h
def H3 (P : Program) (base : Nat) (rv : List ResultVar) : AEx -> LSt -> Option (aq × LHp)
 | .normal, s => (match nK P s rv with | some rs => fin base s.hp rs (fun fQ h1 => some (.ret fQ, h1)) | none => none)
 | .ret, s => (match nK P s rv with | some rs => fin base s.hp rs (fun fQ h1 => some (.ret fQ, h1)) | none => none)
 | .panic t m, s => fin base s.hp [] (fun _ h1 => some (.panic t m, h1))
 | .exit _, _ => none
def sM (E : Env) (fn : Func) (depth : Nat) (live : List (Nat × List Nat)) (args : List AV) (hs : LHp) : Option (aq × LHp) :=
 match fn.body with
 | none => none
 | some c =>
  bif Nat.ble args.length fn.ntmps && cj hs.length hs then
   ex E ⟨fn.ntmps, depth, hs.length, live, true⟩ c ⟨aw depth (number 0 args), hs, hs.length⟩ (H3 E.P hs.length fn.results.toList)
  else none
def DM (E : Env) (fn : Func) (depth : Nat) (live : List (Nat × List Nat)) : FnE :=
 { run := fun args hs k => (sM E fn depth live args hs).bind fun p => k p.1 p.2 }
theorem pQ (d : Nat) : ∀ (l : List AV) (i x : Nat), (aw d (number i l)).get x = .undef \/ ∃ j, x = i + j /\ (aw d (number i l)).get x = (l[j]?).getD .undef := by
 intro l i x
 rcases lN d (number i l) x with h | ⟨a, h1, h2⟩
 ·exact .inl h
 ·have key : ∀ (l : List AV) (i : Nat), (x, a) ∈ number i l -> ∃ j, x = i + j /\ (l[j]?).getD .undef = a := by
   intro l
   induction l with
   | nil => intro i h; cases h
   | cons b l ih =>
    intro i h
    simp only [number, List.mem_cons, Prod.mk.injEq] at h
    rcases h with ⟨rfl, rfl⟩ | h
    ·simp
    ·obtain ⟨j, h1, h2⟩ := ih (i + 1) h
     exact ⟨j + 1, by omega, by simpa using h2⟩
  grind
theorem sO {C : Ctx} {s s' : ASt} (hp : s'.hp = s.hp) (h : ∀ x, s'.fr x = .undef \/ s'.fr x = s.fr x) : Le C s s' := by
 rintro a w ⟨im, μ, hi⟩
 refine ⟨im, μ, hi.os, hi.tape, hi.output, hi.grow, hi.old, hi.imC, hi.imNew, hi.imLt, hi.sep, hi.inj, by rw [hp]; exact hi.dom, by rw [hp]; exact hi.obj, by rw [hp]; exact hi.glob, fun x => ?_, hi.size, hi.defers, by rw [hp]; exact hi.pin⟩
 rcases h x with h | h
 ·rw [h]; trivial
 ·rw [h, hp]; exact hi.fr x
theorem Qt {P : Program} {fn : Func} {hs : LHp} {e : AEx} {s : LSt} {ae : aq} {aH : LHp} (hbel : cj hs.length hs = true) (h : H3 P hs.length fn.results.toList e s = some (ae, aH)) :
  V3 P fn (aA hs) (fun nd h1 => nd = ae /\ h1 = aA aH) e s.toA := by
 have hret : (match nK P s fn.results.toList with | some rs => fin hs.length s.hp rs (fun fQ h1 => some (aq.ret fQ, h1)) | none => none) = some (ae, aH) ->
   ∃ rs σ h1 fQ, j7 P s.toA fn.results.toList rs /\ cu σ s.toA.hp h1 /\ rens σ rs = some fQ /\ (∀ o ob, aA hs o = some ob -> σ.get o = some (o, .keep)) /\ (aq.ret fQ = ae /\ h1 = aA aH) := by
  intro h
  split at h
  ·rename_i rs u7
   obtain ⟨σ, h1, fQ, g1, g2, g3, g4⟩ := sL h
   cases g4
   exact ⟨rs, σ, _, fQ, rh u7, g1, g2, fun o ob ho => g3 o (cb hbel o ob ho), rfl, rfl⟩
  ·cases h
 cases e with
 | normal => exact hret h
 | ret => exact hret h
 | exit id => cases h
 | panic t m =>
  have h' : fin hs.length s.hp [] (fun _ h1 => some (aq.panic t m, h1)) = some (ae, aH) := h
  obtain ⟨σ, h1, fQ, g1, g2, g3, g4⟩ := sL h'
  cases g4
  exact ⟨σ, _, g1, fun o ob ho => g3 o (cb hbel o ob ho), rfl, rfl⟩
theorem xz {P : Program} {C : Ctx} {c : Code} {s : ASt} {Q Q' : AEx -> ASt -> Prop} (h : AW P C c Q' s) (k : ∀ ex s', Q' ex s' -> ∃ qD, Le C s' qD /\ Q ex qD) : AW P C c Q s :=
 fun a w hr => wpIn_mono (h a w hr) fun e a' w' hx => by
  obtain ⟨ae, s', he, hq, lj⟩ := hx
  obtain ⟨qD, hl, hq'⟩ := k _ _ hq
  exact ⟨ae, qD, he, hq', hl _ _ lj⟩
theorem H4 {E : Env} (hE : E.Good) (bO : E.P.follows .mixedOrders = true) {f : FuncId} {fn : Func} {depth : Nat} {live : List (Nat × List Nat)} (hf : E.P.funcs[f]? = some fn) (hcall : ∀ (vs : Array Value) (w : World), (callFunc f vs).run E.P w = .ok (.enter f vs) w)
  (hcode : (match fn.body with | some c => b7 fn.ntmps c | none => true) = true) (hdep : Nat.blt fn.ntmps (2 ^ depth) = true) : FnE.OK E.P E.gam f (DM E fn depth live) := by
 refine ⟨?_, ?_⟩
 ·intro R args hs k
  simp only [DM]
  cases sM E fn depth live args hs <;> rfl
 ·intro args hs ae aH h
  simp only [DM] at h
  obtain ⟨p, hp, h⟩ := aS h
  cases h
  unfold sM at hp
  cases hb : fn.body with
  | none => rw [hb] at hp; cases hp
  | some c =>
   rw [hb] at hp hcode
   simp only at hp hcode
   cases hc : Nat.ble args.length fn.ntmps && cj hs.length hs with
   | false => rw [hc] at hp; cases hp
   | true =>
    rw [hc] at hp
    simp only [ba] at hc
    simp only [ai] at hp
    have hdep' : fn.ntmps < 2 ^ depth := Nat.le_of_ble_eq_true hdep
    refine DL hf hb hcall hE.gf (Nat.le_of_ble_eq_true hc.1) fun W im μ => ?_
    have hCK : CK E ⟨fn.ntmps, depth, hs.length, live, true⟩ (zQ W im μ (aA hs) fn.ntmps E.gam) := ⟨rfl, rfl, hdep', fun o ob ho => cb hc.2 o ob ho, fun _ => ⟨rfl, rfl⟩⟩
    have hex := vM hE bO hCK c ⟨aw depth (number 0 args), hs, hs.length⟩ _ _ hcode (ku ⟨fn.ntmps, depth, hs.length, live, true⟩ hdep' _ _ _) hp
    refine iZ (s' := (⟨aw depth (number 0 args), hs, hs.length⟩ : LSt).toA) (sO rfl fun x => ?_) (xz hex ?_)
    ·show (aw depth (number 0 args)).get x = .undef \/ (aw depth (number 0 args)).get x = jo args x
     grind [pQ, jq]
    ·rintro e s' ⟨st, hle, _, hk⟩
     grind [Qt]
def xA (P : Program) : List (Nat × Ty) -> Prop
 | [] => True
 | p :: r => dG P p.1 p.2 /\ xA P r
theorem Fi {P : Program} : ∀ {l : List (Nat × Ty)}, xA P l -> ∀ p ∈ l, dG P p.1 p.2
 | [], _, _, h => by cases h
 | q :: r, hg, p, h => by
  rcases List.mem_cons.1 h with rfl | h
  ·exact hg.1
  ·exact Fi hg.2 p h
theorem KN {l : List (Nat × AV)} (h : (l.all fun p => p.2.free) = true) : ∀ g v, lk l g = some v -> v.free = true := fun g v hv => List.all_eq_true.1 h (g, v) (fh hv)
def Env.add (E : Env) (k : Nat) (g : FnE) : Env := { E with calls := (k, g) :: E.calls }
theorem Env.Good.add {E : Env} (h : E.Good) {k : Nat} {g : FnE} (hg : FnE.OK E.P E.gam k g) : (E.add k g).Good :=
 ⟨⟨h.ty⟩, h.gf, fun p hp => by
  rcases List.mem_cons.1 hp with rfl | hp
  ·exact hg
  ·exact h.calls p hp, h.exts, h.round⟩
def Env.addX (E : Env) (k : Nat) (g : kU) : Env := { E with exts := (k, g) :: E.exts }
theorem Env.Good.addX {E : Env} (h : E.Good) {k : Nat} {g : kU} (hg : kU.OK E.P k g) : (E.addX k g).Good :=
 ⟨⟨h.ty⟩, h.gf, h.calls, fun p hp => by
  rcases List.mem_cons.1 hp with rfl | hp
  ·exact hg
  ·exact h.exts p hp, h.round⟩
end Go.Vm
