/- Part S of the abstract machine: the executor of a function, sound: FnE.OK. -/
import Derived.Test.YtnkhoojomojbpaaGreatDoorQ20
namespace Go.Vm
universe u
variable {R : Type}
section
variable {P : Program} {C : Ctx}
theorem KS {s : ASt} {im : Nat -> Prop} {μ : Mu} {a : Act} {w : World} {σ : Sg} {h1 : Hp} (hi : Inv C im μ s a w) (hS : oV σ μ (fw σ μ) s.hp h1) (hpin : ∀ o ob, C.h0 o = some ob -> σ.get o = some (o, .keep)) :
  ∀ o ob, C.h0 o = some ob -> ∃ cx, h1 o = some cx /\ cZ ob (C.μ0 o) cx (fw σ μ o) := by
 intro o ob h
 have hσ := hpin o ob h
 obtain ⟨nO, h1, h2⟩ := hi.pin o ob h
 obtain ⟨g1, g2⟩ := hS.ob o o .keep hσ
 obtain ⟨sy, h3, h4⟩ := g2 nO h1
 refine ⟨sy, h3, ?_⟩
 rw [g1]
 cases nO with
 | box v =>
  cases sy with
  | arr _ _ _ _ _ => exact h4.elim
  | rc _ => exact h4.elim
  | box v2 =>
   cases ob with
   | box v0 => exact h2
   | rc _ => exact h2.elim
   | arr T e m z xs => obtain ⟨_, _, _, h5, _⟩ := h2; cases h5
 | rc v =>
  cases sy with
  | arr _ _ _ _ _ => exact h4.elim
  | box _ => exact h4.elim
  | rc v2 =>
   cases ob with
   | box v0 => exact h2.elim
   | rc _ => exact ⟨h2.1, (show v2.isMap = v.isMap from h4).trans h2.2⟩
   | arr T e m z xs => obtain ⟨_, _, _, h5, _⟩ := h2; cases h5
 | arr T e m z xs =>
  obtain ⟨m', h5, rfl⟩ := h4
  cases h5
  exact h2
theorem Inv.hpStepV {W : World} {im bT : Nat -> Prop} {μ bm : Mu} {h0 h1 : Hp} {Γ : Nat -> Option AV} {ds : List Deferred} {n : Nat} {rd : Option Nat} {nm : Bool} {s : ASt} {a : Act} {w : World} {σ : Sg} (hi : Inv ⟨W, im, fun b => ∃ o, (μ o).blk = some b, n, ds, Γ, h0, μ, rd, nm⟩ bT bm s a w)
  (H : cN σ s.hp h1) (hpin : ∀ o ob, h0 o = some ob -> σ.get o = some (o, .keep)) : dx W im μ h0 w bT (fw σ bm) h1 /\ oV σ bm (fw σ bm) s.hp h1 := by
 obtain ⟨hI, hS⟩ := H.inv (fun o b h => ⟨(hi.sep o b h).1, (hi.sep o b h).2.1⟩) hi.inj hi.obj
 refine ⟨⟨hi.os, hi.tape, hi.output, hi.grow, fun b hb hno => hi.old b hb (fun ⟨o, ho⟩ => hno o ho), hi.imC, hi.imNew, hi.imLt, fun o b h => ?_, KS hi hS hpin, hI⟩, hS⟩
 unfold fw at h
 cases hq : σ.inv o with
 | none => rw [hq] at h; cases h
 | some o1 => rw [hq] at h; exact (hi.sep o1 b h).2.2
def V5 (P : Program) (fn : Func) (h0 : Hp) (R : aq -> Hp -> Prop) : AEx -> ASt -> Prop
 | .normal, s | .ret, s => ∃ rs σ h1 fO, kE P s fn.results.toList rs /\ cN σ s.hp h1 /\ rens σ rs = some fO /\ (∀ o ob, h0 o = some ob -> σ.get o = some (o, .keep)) /\ R (.ret fO) h1
 | .panic t n, s => ∃ σ h1, cN σ s.hp h1 /\ (∀ o ob, h0 o = some ob -> σ.get o = some (o, .keep)) /\ R (.panic t n) h1
 | .exit _, _ => False
theorem D0 {Γ : Nat -> Option AV} {f : FuncId} {fn : Func} {c : Code} {args : List AV} {h0 : Hp} {R : aq -> Hp -> Prop} (hf : P.funcs[f]? = some fn) (hb : fn.body = some c) (hcall : ∀ (vs : Array Value) (w : World), (callFunc f vs).run P w = .ok (.enter f vs) w) (hgf : ∀ g v, Γ g = some v -> v.free = true)
  (hn : args.length <= fn.ntmps) (h : ∀ W im μ, AW P (Ah W im μ h0 fn.ntmps Γ) c (V5 P fn h0 R) ⟨jH args, h0⟩) : FnH P Γ f args h0 R := by
 refine ⟨hcall, fun W im μ vals iR hglob hI hargs => ?_⟩
 refine callsIn_wide.1 (callsIn_of_wp_marks (F := Fence.wide) (n := 0) hf hb trivial ?_)
 have hinv := sW iR hgf hglob hI hargs hn
 refine wpIn_mono (h W im μ _ _ ⟨im, μ, hinv⟩) ?_
 rintro e a w ⟨ae, s, rfl, hq, PH, Fa, hi⟩
 obtain ⟨ms, hd, hm⟩ := hi.defers
 have hlv : ∀ u, u ≠ .run -> (∀ w', Xs ms w w' -> LeavesInM Fence.wide 0 P fn a.tmps (fun e w' => ∃ ae h1 bT bm, R ae h1 /\ dx W im μ h0 w' bT bm h1 /\ kC w' bT bm h1 ae e) [] u w') ->
   LeavesInM Fence.wide 0 P fn a.tmps (fun e w' => ∃ ae h1 bT bm, R ae h1 /\ dx W im μ h0 w' bT bm h1 /\ kC w' bT bm h1 ae e) a.defers u w := fun u hu hh => by
  rw [hd]
  exact oX hu ms w hm.nodup (fun r hr => (hm.all r hr).2.2.2.2) hh
 have hret : (∃ rs σ h1 fO, kE P s fn.results.toList rs /\ cN σ s.hp h1 /\ rens σ rs = some fO /\ (∀ o ob, h0 o = some ob -> σ.get o = some (o, .keep)) /\ R (.ret fO) h1) ->
   LeavesInM Fence.wide 0 P fn a.tmps (fun e w' => ∃ ae h1 bT bm, R ae h1 /\ dx W im μ h0 w' bT bm h1 /\ kC w' bT bm h1 ae e) a.defers .returning w := by
  rintro ⟨rs, σ, h1, fO, hra, hH, rS, hpin, hR⟩
  refine hlv _ (by simp) fun w' hs => ?_
  have fq := hi.unmark hm hs
  obtain ⟨vs, g1, g2⟩ := kl fq hra
  obtain ⟨kO, hS⟩ := fq.hpStepV hH hpin
  obtain ⟨v, g3, g4⟩ := qR (fn := fn) g1 (RepFs.ren hS _ _ _ rS g2)
  exact ⟨v, g3, .ret fO, h1, PH, _, hR, kO, g4⟩
 cases ae with
 | normal => exact hret hq
 | ret => exact hret hq
 | exit id => exact hq.elim
 | panic t n =>
  obtain ⟨σ, h1, hH, hpin, hR⟩ := hq
  refine hlv _ (by simp) fun w' hs => ?_
  obtain ⟨kO, _⟩ := (hi.unmark hm hs).hpStepV hH hpin
  exact ⟨.panic t n, h1, PH, _, hR, kO, rfl⟩
end
def ox (P : Program) (s : LSt) : List ResultVar -> Option (List AV)
 | [] => some []
 | .tmp t :: l => bif (s.fr.get t).plain then (match ox P s l with | some r => some (s.fr.get t :: r) | none => none) else none
 | .cell t T :: l =>
  (match s.fr.get t with
  | .op o [] 0 =>
   (match az s.hp o with
   | some (.box a) => bif th P T a.asize a.isAgg then (match ox P s l with | some r => some (a :: r) | none => none) else none
   | _ => none)
  | _ => none)
theorem rW {P : Program} {s : LSt} : ∀ {l : List ResultVar} {rs : List AV}, ox P s l = some rs -> kE P s.toA l rs
 | [], rs, h => by cases h; exact .nil
 | .tmp t :: l, rs, h => by
  simp only [ox] at h
  cases hp : (s.fr.get t).plain with
  | false => rw [hp] at h; cases h
  | true =>
   rw [hp] at h
   simp only [ak] at h
   split at h
   ·rename_i r hr; cases h; exact .tmp rfl hp (rW hr)
   ·cases h
 | .cell t T :: l, rs, h => by
  simp only [ox] at h
  split at h
  ·rename_i o ho
   split at h
   ·rename_i a ha
    cases hb : th P T a.asize a.isAgg with
    | false => rw [hb] at h; cases h
    | true =>
     rw [hb] at h
     simp only [ak] at h
     split at h
     ·rename_i r hr; cases h; exact .cell ho ha (kS hb) (rW hr)
     ·cases h
   ·cases h
  ·cases h
def fin (base : Nat) (hp : LHp) (rs : List AV) (k : List AV -> LHp -> Option R) : Option R :=
 let σ := x9 hp base (refsL rs)
 bif σ.good && ov σ base then
  (match rens σ rs with
  | some fO => (match j8 hp σ σ with | some h1 => k fO h1 | none => none)
  | none => none)
 else none
theorem tJ {base : Nat} {hp : LHp} {rs : List AV} {k : List AV -> LHp -> Option R} {r : R} (h : fin base hp rs k = some r) :
  ∃ σ h1 fO, cN σ (az hp) (az h1) /\ rens σ rs = some fO /\ (∀ o, o < base -> σ.get o = some (o, .keep)) /\ k fO h1 = some r := by
 unfold fin at h
 simp only at h
 generalize x9 hp base (refsL rs) = σ at h
 cases hb : σ.good && ov σ base with
 | false => rw [hb] at h; cases h
 | true =>
  rw [hb] at h
  simp only [bg] at hb
  simp only [ak] at h
  split at h
  ·rename_i fO rS
   split at h
   ·rename_i h1 hr
    exact ⟨σ, h1, fO, ia hb.1 hr, rS, mD hb.2, h⟩
   ·cases h
  ·cases h
def number : Nat -> List AV -> List (Nat × AV)
 | _, [] => []
 | i, a :: l => (i, a) :: number (i + 1) l
def cF (n : Nat) : LHp -> Bool
 | [] => true
 | (o, _) :: r => Nat.blt o n && cF n r
theorem cD {n : Nat} : ∀ {l : LHp}, cF n l = true -> ∀ o ob, az l o = some ob -> o < n
 | [], _, _, _, h => by cases h
 | (a, b) :: r, hb, o, ob, h => by
  simp only [cF, bg] at hb
  simp only [az] at h
  cases hq : Nat.beq a o with
  | true => rw [← bo hq]; exact Nat.le_of_ble_eq_true hb.1
  | false => rw [hq] at h; exact cD hb.2 o ob h
def Ic (P : Program) (base : Nat) (rv : List ResultVar) : AEx -> LSt -> Option (aq × LHp)
 | .normal, s => (match ox P s rv with | some rs => fin base s.hp rs (fun fO h1 => some (.ret fO, h1)) | none => none)
 | .ret, s => (match ox P s rv with | some rs => fin base s.hp rs (fun fO h1 => some (.ret fO, h1)) | none => none)
 | .panic t m, s => fin base s.hp [] (fun _ h1 => some (.panic t m, h1))
 | .exit _, _ => none
def tK (E : Env) (fn : Func) (depth : Nat) (live : List (Nat × List Nat)) (args : List AV) (hs : LHp) : Option (aq × LHp) :=
 match fn.body with
 | none => none
 | some c =>
  bif Nat.ble args.length fn.ntmps && cF hs.length hs then
   ex E ⟨fn.ntmps, depth, hs.length, live, true⟩ c ⟨aw depth (number 0 args), hs, hs.length⟩ (Ic E.P hs.length fn.results.toList)
  else none
def D1 (E : Env) (fn : Func) (depth : Nat) (live : List (Nat × List Nat)) : FnE :=
 { run := fun args hs k => (tK E fn depth live args hs).bind fun p => k p.1 p.2 }
theorem qt (d : Nat) : ∀ (l : List AV) (i x : Nat), (aw d (number i l)).get x = .undef \/ ∃ j, x = i + j /\ (aw d (number i l)).get x = (l[j]?).getD .undef := by
 intro l i x
 rcases mv d (number i l) x with h | ⟨a, h1, h2⟩
 ·exact .inl h
 ·have key : ∀ (l : List AV) (i : Nat), (x, a) ∈ number i l -> ∃ j, x = i + j /\ (l[j]?).getD .undef = a := by
   intro l
   induction l with
   | nil => intro i h; cases h
   | cons b l ih =>
    intro i h
    simp only [number, List.mem_cons, Prod.mk.injEq] at h
    rcases h with ⟨rfl, rfl⟩ | h
    ·exact ⟨0, rfl, rfl⟩
    ·obtain ⟨j, h1, h2⟩ := ih (i + 1) h
     exact ⟨j + 1, by omega, by simpa using h2⟩
  obtain ⟨j, h3, h4⟩ := key l i h1
  exact .inr ⟨j, h3, by rw [h2, h4]⟩
theorem tL {C : Ctx} {s s' : ASt} (hp : s'.hp = s.hp) (h : ∀ x, s'.fr x = .undef \/ s'.fr x = s.fr x) : Le C s s' := by
 rintro a w ⟨im, μ, hi⟩
 refine ⟨im, μ, hi.os, hi.tape, hi.output, hi.grow, hi.old, hi.imC, hi.imNew, hi.imLt, hi.sep, hi.inj, by rw [hp]; exact hi.dom, by rw [hp]; exact hi.obj, by rw [hp]; exact hi.glob, fun x => ?_, hi.size, hi.defers, by rw [hp]; exact hi.pin⟩
 rcases h x with h | h
 ·rw [h]; trivial
 ·rw [h, hp]; exact hi.fr x
theorem Qo {P : Program} {fn : Func} {hs : LHp} {e : AEx} {s : LSt} {ae : aq} {aF : LHp} (hbel : cF hs.length hs = true) (h : Ic P hs.length fn.results.toList e s = some (ae, aF)) :
  V5 P fn (az hs) (fun mc h1 => mc = ae /\ h1 = az aF) e s.toA := by
 have hret : (match ox P s fn.results.toList with | some rs => fin hs.length s.hp rs (fun fO h1 => some (aq.ret fO, h1)) | none => none) = some (ae, aF) ->
   ∃ rs σ h1 fO, kE P s.toA fn.results.toList rs /\ cN σ s.toA.hp h1 /\ rens σ rs = some fO /\ (∀ o ob, az hs o = some ob -> σ.get o = some (o, .keep)) /\ (aq.ret fO = ae /\ h1 = az aF) := by
  intro h
  split at h
  ·rename_i rs rS
   obtain ⟨σ, h1, fO, g1, g2, g3, g4⟩ := tJ h
   cases g4
   exact ⟨rs, σ, _, fO, rW rS, g1, g2, fun o ob ho => g3 o (cD hbel o ob ho), rfl, rfl⟩
  ·cases h
 cases e with
 | normal => exact hret h
 | ret => exact hret h
 | exit id => cases h
 | panic t m =>
  have h' : fin hs.length s.hp [] (fun _ h1 => some (aq.panic t m, h1)) = some (ae, aF) := h
  obtain ⟨σ, h1, fO, g1, g2, g3, g4⟩ := tJ h'
  cases g4
  exact ⟨σ, _, g1, fun o ob ho => g3 o (cD hbel o ob ho), rfl, rfl⟩
theorem yc {P : Program} {C : Ctx} {c : Code} {s : ASt} {Q Q' : AEx -> ASt -> Prop} (h : AW P C c Q' s) (k : ∀ ex s', Q' ex s' -> ∃ rl, Le C s' rl /\ Q ex rl) : AW P C c Q s :=
 fun a w hr => wpIn_mono (h a w hr) fun e a' w' hx => by
  obtain ⟨ae, s', he, hq, j7⟩ := hx
  obtain ⟨rl, hl, hq'⟩ := k _ _ hq
  exact ⟨ae, rl, he, hq', hl _ _ j7⟩
theorem Ie {E : Env} (hE : E.Good) (bX : E.P.follows .mixedOrders = true) {f : FuncId} {fn : Func} {depth : Nat} {live : List (Nat × List Nat)} (hf : E.P.funcs[f]? = some fn) (hcall : ∀ (vs : Array Value) (w : World), (callFunc f vs).run E.P w = .ok (.enter f vs) w)
  (hcode : (match fn.body with | some c => cA fn.ntmps c | none => true) = true) (hdep : Nat.blt fn.ntmps (2 ^ depth) = true) : FnE.OK E.P E.gam f (D1 E fn depth live) := by
 refine ⟨?_, ?_⟩
 ·intro R args hs k
  simp only [D1]
  cases tK E fn depth live args hs <;> rfl
 ·intro args hs ae aF h
  simp only [D1] at h
  obtain ⟨p, hp, h⟩ := aS h
  cases h
  unfold tK at hp
  cases hb : fn.body with
  | none => rw [hb] at hp; cases hp
  | some c =>
   rw [hb] at hp hcode
   simp only at hp hcode
   cases hc : Nat.ble args.length fn.ntmps && cF hs.length hs with
   | false => rw [hc] at hp; cases hp
   | true =>
    rw [hc] at hp
    simp only [bg] at hc
    simp only [ak] at hp
    have hdep' : fn.ntmps < 2 ^ depth := Nat.le_of_ble_eq_true hdep
    refine D0 hf hb hcall hE.gf (Nat.le_of_ble_eq_true hc.1) fun W im μ => ?_
    have hCK : CK E ⟨fn.ntmps, depth, hs.length, live, true⟩ (Ah W im μ (az hs) fn.ntmps E.gam) := ⟨rfl, rfl, hdep', fun o ob ho => cD hc.2 o ob ho, fun _ => ⟨rfl, rfl⟩⟩
    have hex := wH hE bX hCK c ⟨aw depth (number 0 args), hs, hs.length⟩ _ _ hcode (kX ⟨fn.ntmps, depth, hs.length, live, true⟩ hdep' _ _ _) hp
    refine jt (s' := (⟨aw depth (number 0 args), hs, hs.length⟩ : LSt).toA) (tL rfl fun x => ?_) (yc hex ?_)
    ·show (aw depth (number 0 args)).get x = .undef \/ (aw depth (number 0 args)).get x = jH args x
     rcases qt depth args 0 x with h | ⟨j, h1, h2⟩
     ·exact .inl h
     ·exact .inr (by rw [h2, jI, h1]; simp)
    ·rintro e s' ⟨st, hle, _, hk⟩
     exact ⟨st.toA, hle, Qo hc.2 hk⟩
def ye (P : Program) : List (Nat × Ty) -> Prop
 | [] => True
 | p :: r => dE P p.1 p.2 /\ ye P r
theorem Fo {P : Program} : ∀ {l : List (Nat × Ty)}, ye P l -> ∀ p ∈ l, dE P p.1 p.2
 | [], _, _, h => by cases h
 | q :: r, hg, p, h => by
  rcases List.mem_cons.1 h with rfl | h
  ·exact hg.1
  ·exact Fo hg.2 p h
theorem KT {l : List (Nat × AV)} (h : (l.all fun p => p.2.free) = true) : ∀ g v, lk l g = some v -> v.free = true := fun g v hv => List.all_eq_true.1 h (g, v) (fy hv)
def Env.add (E : Env) (k : Nat) (g : FnE) : Env := { E with calls := (k, g) :: E.calls }
theorem Env.Good.add {E : Env} (h : E.Good) {k : Nat} {g : FnE} (hg : FnE.OK E.P E.gam k g) : (E.add k g).Good :=
 ⟨⟨h.ty⟩, h.gf, fun p hp => by
  rcases List.mem_cons.1 hp with rfl | hp
  ·exact hg
  ·exact h.calls p hp, h.exts, h.round⟩
def Env.addX (E : Env) (k : Nat) (g : lI) : Env := { E with exts := (k, g) :: E.exts }
theorem Env.Good.addX {E : Env} (h : E.Good) {k : Nat} {g : lI} (hg : lI.OK E.P k g) : (E.addX k g).Good :=
 ⟨⟨h.ty⟩, h.gf, h.calls, fun p hp => by
  rcases List.mem_cons.1 hp with rfl | hp
  ·exact hg
  ·exact h.exts p hp, h.round⟩
end Go.Vm
