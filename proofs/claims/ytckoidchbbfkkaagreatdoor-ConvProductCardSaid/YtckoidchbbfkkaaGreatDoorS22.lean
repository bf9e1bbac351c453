/- Part S of the abstract machine: the executor of a function, sound: FnE.OK. -/
import Derived.Test.YtckoidchbbfkkaaGreatDoorS21
namespace Go.Vm

universe u
variable {R : Type}

section
variable {P : Program} {C : Ctx}

/-- what a view keeps of the objects that were handed in -/
theorem pin_view {s : ASt} {im : Nat → Prop} {μ : Mu} {a : Act} {w : World} {σ : Sg} {h1 : Hp} (hi : Inv C im μ s a w) (hS : SgOK σ μ (muIn σ μ) s.hp h1) (hpin : ∀ o ob, C.h0 o = some ob → σ.get o = some (o, .keep)) :
    ∀ o ob, C.h0 o = some ob → ∃ ob', h1 o = some ob' ∧ ObEv ob (C.μ0 o) ob' (muIn σ μ o) := by
  intro o ob h
  have hσ := hpin o ob h
  obtain ⟨ob1, h1, h2⟩ := hi.pin o ob h
  obtain ⟨g1, g2⟩ := hS.ob o o .keep hσ
  obtain ⟨ob2, h3, h4⟩ := g2 ob1 h1
  refine ⟨ob2, h3, ?_⟩
  rw [g1]
  cases ob1 with
  | box v =>
    cases ob2 with
    | arr _ _ _ _ _ => exact h4.elim
    | rc _ => exact h4.elim
    | box v2 =>
      cases ob with
      | box v0 => exact h2
      | rc _ => exact h2.elim
      | arr T e m z xs => obtain ⟨_, _, _, h5, _⟩ := h2; cases h5
  | rc v =>
    cases ob2 with
    | arr _ _ _ _ _ => exact h4.elim
    | box _ => exact h4.elim
    | rc v2 =>
      cases ob with
      | box v0 => exact h2.elim
      | rc _ => exact ⟨h2.1, (show v2.isMap = v.isMap from h4).trans h2.2⟩
      | arr T e m z xs => obtain ⟨_, _, _, h5, _⟩ := h2; cases h5
  | arr T e m z xs =>
    obtain ⟨m', h5, rfl⟩ := h4
    cases h5
    exact h2

theorem Inv.hpStepV {W : World} {im im' : Nat → Prop} {μ μ' : Mu} {h0 h1 : Hp} {Γ : Nat → Option AV} {ds : List Deferred} {n : Nat} {rd : Option Nat} {nm : Bool} {s : ASt} {a : Act} {w : World} {σ : Sg} (hi : Inv ⟨W, im, fun b => ∃ o, (μ o).blk = some b, n, ds, Γ, h0, μ, rd, nm⟩ im' μ' s a w)
    (H : Handed σ s.hp h1) (hpin : ∀ o ob, h0 o = some ob → σ.get o = some (o, .keep)) : HpStep W im μ h0 w im' (muIn σ μ') h1 ∧ SgOK σ μ' (muIn σ μ') s.hp h1 := by
  obtain ⟨hI, hS⟩ := H.inv (fun o b h => ⟨(hi.sep o b h).1, (hi.sep o b h).2.1⟩) hi.inj hi.obj
  refine ⟨⟨hi.os, hi.tape, hi.output, hi.grow, fun b hb hno => hi.old b hb (fun ⟨o, ho⟩ => hno o ho), hi.imC, hi.imNew, hi.imLt, fun o b h => ?_, pin_view hi hS hpin, hI⟩, hS⟩
  unfold muIn at h
  cases hq : σ.inv o with
  | none => rw [hq] at h; cases h
  | some o1 => rw [hq] at h; exact (hi.sep o1 b h).2.2

/-- how a body's end becomes the call's; what is handed back is seen anew -/
def EndsV (P : Program) (fn : Func) (h0 : Hp) (R : AEnd → Hp → Prop) : AEx → ASt → Prop
  | .normal, s | .ret, s => ∃ rs σ h1 rs', RetAll P s fn.results.toList rs ∧ Handed σ s.hp h1 ∧ rens σ rs = some rs' ∧ (∀ o ob, h0 o = some ob → σ.get o = some (o, .keep)) ∧ R (.ret rs') h1
  | .panic t n, s => ∃ σ h1, Handed σ s.hp h1 ∧ (∀ o ob, h0 o = some ob → σ.get o = some (o, .keep)) ∧ R (.panic t n) h1
  | .exit _, _ => False

theorem fnH_of_awV {Γ : Nat → Option AV} {f : FuncId} {fn : Func} {c : Code} {args : List AV} {h0 : Hp} {R : AEnd → Hp → Prop} (hf : P.funcs[f]? = some fn) (hb : fn.body = some c) (hcall : ∀ (vs : Array Value) (w : World), (callFunc f vs).run P w = .ok (.enter f vs) w) (hgf : ∀ g v, Γ g = some v → v.free = true)
    (hn : args.length ≤ fn.ntmps) (h : ∀ W im μ, AW P (ctxH W im μ h0 fn.ntmps Γ) c (EndsV P fn h0 R) ⟨initFr args, h0⟩) : FnH P Γ f args h0 R := by
  refine ⟨hcall, fun W im μ vals him hglob hI hargs => ?_⟩
  refine callsIn_wide.1 (callsIn_of_wp_marks (F := Fence.wide) (n := 0) hf hb trivial ?_)
  have hinv := init_inv him hgf hglob hI hargs hn
  refine wpIn_mono (h W im μ _ _ ⟨im, μ, hinv⟩) ?_
  rintro e a w ⟨ae, s, rfl, hq, im1, μ1, hi⟩
  obtain ⟨ms, hd, hm⟩ := hi.defers
  have hlv : ∀ u, u ≠ .run → (∀ w', Shut ms w w' → LeavesInM Fence.wide 0 P fn a.tmps (fun e w' => ∃ ae h1 im' μ', R ae h1 ∧ HpStep W im μ h0 w' im' μ' h1 ∧ EndRep w' im' μ' h1 ae e) [] u w') →
      LeavesInM Fence.wide 0 P fn a.tmps (fun e w' => ∃ ae h1 im' μ', R ae h1 ∧ HpStep W im μ h0 w' im' μ' h1 ∧ EndRep w' im' μ' h1 ae e) a.defers u w := fun u hu hh => by
    rw [hd]
    exact leaves_marks hu ms w hm.nodup (fun r hr => (hm.all r hr).2.2.2.2) hh
  have hret : (∃ rs σ h1 rs', RetAll P s fn.results.toList rs ∧ Handed σ s.hp h1 ∧ rens σ rs = some rs' ∧ (∀ o ob, h0 o = some ob → σ.get o = some (o, .keep)) ∧ R (.ret rs') h1) →
      LeavesInM Fence.wide 0 P fn a.tmps (fun e w' => ∃ ae h1 im' μ', R ae h1 ∧ HpStep W im μ h0 w' im' μ' h1 ∧ EndRep w' im' μ' h1 ae e) a.defers .returning w := by
    rintro ⟨rs, σ, h1, rs', hra, hH, hrs, hpin, hR⟩
    refine hlv _ (by simp) fun w' hs => ?_
    have hi' := hi.unmark hm hs
    obtain ⟨vs, g1, g2⟩ := results_run hi' hra
    obtain ⟨hst, hS⟩ := hi'.hpStepV hH hpin
    obtain ⟨v, g3, g4⟩ := results_end (fn := fn) g1 (RepFs.ren hS _ _ _ hrs g2)
    exact ⟨v, g3, .ret rs', h1, im1, _, hR, hst, g4⟩
  cases ae with
  | normal => exact hret hq
  | ret => exact hret hq
  | exit id => exact hq.elim
  | panic t n =>
    obtain ⟨σ, h1, hH, hpin, hR⟩ := hq
    refine hlv _ (by simp) fun w' hs => ?_
    obtain ⟨hst, _⟩ := (hi.unmark hm hs).hpStepV hH hpin
    exact ⟨.panic t n, h1, im1, _, hR, hst, rfl⟩
end

/-! ### the end of a function -/

def resF (P : Program) (s : LSt) : List ResultVar → Option (List AV)
  | [] => some []
  | .tmp t :: l => bif (s.fr.get t).plain then (match resF P s l with | some r => some (s.fr.get t :: r) | none => none) else none
  | .cell t T :: l =>
    (match s.fr.get t with
    | .op o [] 0 =>
      (match hget s.hp o with
      | some (.box a) => bif tyIs P T a.asize a.isAgg then (match resF P s l with | some r => some (a :: r) | none => none) else none
      | _ => none)
    | _ => none)

theorem resF_ok {P : Program} {s : LSt} : ∀ {l : List ResultVar} {rs : List AV}, resF P s l = some rs → RetAll P s.toA l rs
  | [], rs, h => by cases h; exact .nil
  | .tmp t :: l, rs, h => by
    simp only [resF] at h
    cases hp : (s.fr.get t).plain with
    | false => rw [hp] at h; cases h
    | true =>
      rw [hp] at h
      simp only [cond_true] at h
      split at h
      · rename_i r hr; cases h; exact .tmp rfl hp (resF_ok hr)
      · cases h
  | .cell t T :: l, rs, h => by
    simp only [resF] at h
    split at h
    · rename_i o ho
      split at h
      · rename_i a ha
        cases hb : tyIs P T a.asize a.isAgg with
        | false => rw [hb] at h; cases h
        | true =>
          rw [hb] at h
          simp only [cond_true] at h
          split at h
          · rename_i r hr; cases h; exact .cell ho ha (tyIs_spec hb) (resF_ok hr)
          · cases h
      · cases h
    · cases h

def fin (base : Nat) (hp : LHp) (rs : List AV) (k : List AV → LHp → Option R) : Option R :=
  let σ := viewSg hp base (refsL rs)
  bif σ.good && pinsOK σ base then
    (match rens σ rs with
    | some rs' => (match renP hp σ σ with | some h1 => k rs' h1 | none => none)
    | none => none)
  else none

theorem fin_ok {base : Nat} {hp : LHp} {rs : List AV} {k : List AV → LHp → Option R} {r : R} (h : fin base hp rs k = some r) :
    ∃ σ h1 rs', Handed σ (hget hp) (hget h1) ∧ rens σ rs = some rs' ∧ (∀ o, o < base → σ.get o = some (o, .keep)) ∧ k rs' h1 = some r := by
  unfold fin at h
  simp only at h
  generalize viewSg hp base (refsL rs) = σ at h
  cases hb : σ.good && pinsOK σ base with
  | false => rw [hb] at h; cases h
  | true =>
    rw [hb] at h
    simp only [Bool.and_eq_true] at hb
    simp only [cond_true] at h
    split at h
    · rename_i rs' hrs
      split at h
      · rename_i h1 hr
        exact ⟨σ, h1, rs', handed_of hb.1 hr, hrs, pinsOK_spec hb.2, h⟩
      · cases h
    · cases h

def number : Nat → List AV → List (Nat × AV)
  | _, [] => []
  | i, a :: l => (i, a) :: number (i + 1) l

/-- names below a bound -/
def below (n : Nat) : LHp → Bool
  | [] => true
  | (o, _) :: r => Nat.blt o n && below n r
theorem below_spec {n : Nat} : ∀ {l : LHp}, below n l = true → ∀ o ob, hget l o = some ob → o < n
  | [], _, _, _, h => by cases h
  | (a, b) :: r, hb, o, ob, h => by
    simp only [below, Bool.and_eq_true] at hb
    simp only [hget] at h
    cases hq : Nat.beq a o with
    | true => rw [← Nat.eq_of_beq_eq_true hq]; exact Nat.le_of_ble_eq_true hb.1
    | false => rw [hq] at h; exact below_spec hb.2 o ob h

def endK (P : Program) (base : Nat) (rv : List ResultVar) : AEx → LSt → Option (AEnd × LHp)
  | .normal, s => (match resF P s rv with | some rs => fin base s.hp rs (fun rs' h1 => some (.ret rs', h1)) | none => none)
  | .ret, s => (match resF P s rv with | some rs => fin base s.hp rs (fun rs' h1 => some (.ret rs', h1)) | none => none)
  | .panic t m, s => fin base s.hp [] (fun _ h1 => some (.panic t m, h1))
  | .exit _, _ => none

/-- a body of the program, run by the executor -/
def execB (E : Env) (fn : Func) (depth : Nat) (live : List (Nat × List Nat)) (args : List AV) (hs : LHp) : Option (AEnd × LHp) :=
  match fn.body with
  | none => none
  | some c =>
    bif Nat.ble args.length fn.ntmps && below hs.length hs then
      ex E ⟨fn.ntmps, depth, hs.length, live, true⟩ c ⟨mkFr depth (number 0 args), hs, hs.length⟩ (endK E.P hs.length fn.results.toList)
    else none

def execFn (E : Env) (fn : Func) (depth : Nat) (live : List (Nat × List Nat)) : FnE :=
  { run := fun args hs k => (execB E fn depth live args hs).bind fun p => k p.1 p.2 }

theorem number_fr (d : Nat) : ∀ (l : List AV) (i x : Nat), (mkFr d (number i l)).get x = .undef ∨ ∃ j, x = i + j ∧ (mkFr d (number i l)).get x = (l[j]?).getD .undef := by
  intro l i x
  rcases mkFr_get d (number i l) x with h | ⟨a, h1, h2⟩
  · exact .inl h
  · have key : ∀ (l : List AV) (i : Nat), (x, a) ∈ number i l → ∃ j, x = i + j ∧ (l[j]?).getD .undef = a := by
      intro l
      induction l with
      | nil => intro i h; cases h
      | cons b l ih =>
        intro i h
        simp only [number, List.mem_cons, Prod.mk.injEq] at h
        rcases h with ⟨rfl, rfl⟩ | h
        · exact ⟨0, rfl, rfl⟩
        · obtain ⟨j, h1, h2⟩ := ih (i + 1) h
          exact ⟨j + 1, by omega, by simpa using h2⟩
    obtain ⟨j, h3, h4⟩ := key l i h1
    exact .inr ⟨j, h3, by rw [h2, h4]⟩

theorem le_frame {C : Ctx} {s s' : ASt} (hp : s'.hp = s.hp) (h : ∀ x, s'.fr x = .undef ∨ s'.fr x = s.fr x) : Le C s s' := by
  rintro a w ⟨im, μ, hi⟩
  refine ⟨im, μ, hi.os, hi.tape, hi.output, hi.grow, hi.old, hi.imC, hi.imNew, hi.imLt, hi.sep, hi.inj, by rw [hp]; exact hi.dom, by rw [hp]; exact hi.obj, by rw [hp]; exact hi.glob, fun x => ?_, hi.size, hi.defers, by rw [hp]; exact hi.pin⟩
  rcases h x with h | h
  · rw [h]; trivial
  · rw [h, hp]; exact hi.fr x

theorem endK_ok {P : Program} {fn : Func} {hs : LHp} {e : AEx} {s : LSt} {ae : AEnd} {hs' : LHp} (hbel : below hs.length hs = true) (h : endK P hs.length fn.results.toList e s = some (ae, hs')) :
    EndsV P fn (hget hs) (fun ae' h1 => ae' = ae ∧ h1 = hget hs') e s.toA := by
  have hret : (match resF P s fn.results.toList with | some rs => fin hs.length s.hp rs (fun rs' h1 => some (AEnd.ret rs', h1)) | none => none) = some (ae, hs') →
      ∃ rs σ h1 rs', RetAll P s.toA fn.results.toList rs ∧ Handed σ s.toA.hp h1 ∧ rens σ rs = some rs' ∧ (∀ o ob, hget hs o = some ob → σ.get o = some (o, .keep)) ∧ (AEnd.ret rs' = ae ∧ h1 = hget hs') := by
    intro h
    split at h
    · rename_i rs hrs
      obtain ⟨σ, h1, rs', g1, g2, g3, g4⟩ := fin_ok h
      cases g4
      exact ⟨rs, σ, _, rs', resF_ok hrs, g1, g2, fun o ob ho => g3 o (below_spec hbel o ob ho), rfl, rfl⟩
    · cases h
  cases e with
  | normal => exact hret h
  | ret => exact hret h
  | exit id => cases h
  | panic t m =>
    have h' : fin hs.length s.hp [] (fun _ h1 => some (AEnd.panic t m, h1)) = some (ae, hs') := h
    obtain ⟨σ, h1, rs', g1, g2, g3, g4⟩ := fin_ok h'
    cases g4
    exact ⟨σ, _, g1, fun o ob ho => g3 o (below_spec hbel o ob ho), rfl, rfl⟩

theorem aw_via {P : Program} {C : Ctx} {c : Code} {s : ASt} {Q Q' : AEx → ASt → Prop} (h : AW P C c Q' s) (k : ∀ ex s', Q' ex s' → ∃ s'', Le C s' s'' ∧ Q ex s'') : AW P C c Q s :=
  fun a w hr => wpIn_mono (h a w hr) fun e a' w' hx => by
    obtain ⟨ae, s', he, hq, hr'⟩ := hx
    obtain ⟨s'', hl, hq'⟩ := k _ _ hq
    exact ⟨ae, s'', he, hq', hl _ _ hr'⟩

theorem execFn_ok {E : Env} (hE : E.Good) (hmix : E.P.follows .mixedOrders = true) {f : FuncId} {fn : Func} {depth : Nat} {live : List (Nat × List Nat)} (hf : E.P.funcs[f]? = some fn) (hcall : ∀ (vs : Array Value) (w : World), (callFunc f vs).run E.P w = .ok (.enter f vs) w)
    (hcode : (match fn.body with | some c => codeIn fn.ntmps c | none => true) = true) (hdep : Nat.blt fn.ntmps (2 ^ depth) = true) : FnE.OK E.P E.gam f (execFn E fn depth live) := by
  refine ⟨?_, ?_⟩
  · intro R args hs k
    simp only [execFn]
    cases execB E fn depth live args hs <;> rfl
  · intro args hs ae hs' h
    simp only [execFn] at h
    obtain ⟨p, hp, h⟩ := bind_some h
    cases h
    unfold execB at hp
    cases hb : fn.body with
    | none => rw [hb] at hp; cases hp
    | some c =>
      rw [hb] at hp hcode
      simp only at hp hcode
      cases hc : Nat.ble args.length fn.ntmps && below hs.length hs with
      | false => rw [hc] at hp; cases hp
      | true =>
        rw [hc] at hp
        simp only [Bool.and_eq_true] at hc
        simp only [cond_true] at hp
        have hdep' : fn.ntmps < 2 ^ depth := Nat.le_of_ble_eq_true hdep
        refine fnH_of_awV hf hb hcall hE.gf (Nat.le_of_ble_eq_true hc.1) fun W im μ => ?_
        have hCK : CK E ⟨fn.ntmps, depth, hs.length, live, true⟩ (ctxH W im μ (hget hs) fn.ntmps E.gam) := ⟨rfl, rfl, hdep', fun o ob ho => below_spec hc.2 o ob ho, fun _ => ⟨rfl, rfl⟩⟩
        have hex := ex_ok hE hmix hCK c ⟨mkFr depth (number 0 args), hs, hs.length⟩ _ _ hcode (full_fits ⟨fn.ntmps, depth, hs.length, live, true⟩ hdep' _ _ _) hp
        refine aw_weaken (s' := (⟨mkFr depth (number 0 args), hs, hs.length⟩ : LSt).toA) (le_frame rfl fun x => ?_) (aw_via hex ?_)
        · show (mkFr depth (number 0 args)).get x = .undef ∨ (mkFr depth (number 0 args)).get x = initFr args x
          rcases number_fr depth args 0 x with h | ⟨j, h1, h2⟩
          · exact .inl h
          · exact .inr (by rw [h2, initFr_get, h1]; simp)
        · rintro e s' ⟨st, hle, _, hk⟩
          exact ⟨st.toA, hle, endK_ok hc.2 hk⟩

/-! ### environments that grow -/

def AllGood (P : Program) : List (Nat × Ty) → Prop
  | [] => True
  | p :: r => TyGood P p.1 p.2 ∧ AllGood P r
theorem allGood {P : Program} : ∀ {l : List (Nat × Ty)}, AllGood P l → ∀ p ∈ l, TyGood P p.1 p.2
  | [], _, _, h => by cases h
  | q :: r, hg, p, h => by
    rcases List.mem_cons.1 h with rfl | h
    · exact hg.1
    · exact allGood hg.2 p h
theorem gam_free {l : List (Nat × AV)} (h : (l.all fun p => p.2.free) = true) : ∀ g v, lk l g = some v → v.free = true := fun g v hv => List.all_eq_true.1 h (g, v) (lk_mem hv)

def Env.add (E : Env) (k : Nat) (g : FnE) : Env := { E with calls := (k, g) :: E.calls }
theorem Env.Good.add {E : Env} (h : E.Good) {k : Nat} {g : FnE} (hg : FnE.OK E.P E.gam k g) : (E.add k g).Good :=
  ⟨⟨h.ty⟩, h.gf, fun p hp => by
    rcases List.mem_cons.1 hp with rfl | hp
    · exact hg
    · exact h.calls p hp, h.exts, h.round⟩
def Env.addX (E : Env) (k : Nat) (g : ExtE) : Env := { E with exts := (k, g) :: E.exts }
theorem Env.Good.addX {E : Env} (h : E.Good) {k : Nat} {g : ExtE} (hg : ExtE.OK E.P k g) : (E.addX k g).Good :=
  ⟨⟨h.ty⟩, h.gf, h.calls, fun p hp => by
    rcases List.mem_cons.1 hp with rfl | hp
    · exact hg
    · exact h.exts p hp, h.round⟩

end Go.Vm
