/- Part R of the abstract machine: the executor of code and functions; its soundness. -/
import Derived.Test.YtckoidchbbfkkaaGreatDoorS20
namespace Go.Vm

universe u
variable {R : Type}

/-! ### a state seen anew -/

/-- the objects that were handed in keep their names, the others are numbered anew -/
def sgView (hp : LHp) (base : Nat) : List Nat → Nat → Sg
  | [], _ => []
  | o :: l, j => bif Nat.blt o base then (o, o, .keep) :: sgView hp base l j else (o, j, verIn hp o) :: sgView hp base l (j + 1)

def rangeL : Nat → Nat → List Nat
  | 0, _ => []
  | n + 1, i => i :: rangeL n (i + 1)

/-- are they all there under their own names? -/
def pinsOK (σ : Sg) : Nat → Bool
  | 0 => true
  | n + 1 => (match σ.get n with | some (o', .keep) => Nat.beq o' n | _ => false) && pinsOK σ n

theorem pinsOK_spec {σ : Sg} : ∀ {n : Nat}, pinsOK σ n = true → ∀ o, o < n → σ.get o = some (o, .keep)
  | 0, _, o, ho => by omega
  | n + 1, h, o, ho => by
    simp only [pinsOK, Bool.and_eq_true] at h
    by_cases e : o = n
    · subst e
      obtain ⟨h1, _⟩ := h
      split at h1
      · rename_i o' hg
        rw [hg, Nat.eq_of_beq_eq_true h1]
      · cases h1
    · exact pinsOK_spec h.2 o (by omega)

def rev : List Nat → List Nat → List Nat
  | [], acc => acc
  | a :: l, acc => rev l (a :: acc)

def viewSg (hp : LHp) (base : Nat) (roots : List Nat) : Sg :=
  sgView hp base (rev (reach hp manyFuel (rangeL base 0 ++ roots) []) []) base

def refsAt (s : LSt) : List Nat → List Nat
  | [] => []
  | x :: l => (s.fr.get x).refs ++ refsAt s l

def renSlot (σ : Sg) : AV → AV
  | .tup l => (match rens σ l with | some l' => .tup l' | none => .undef)
  | a => (match a.ren σ with | some a' => a' | none => .undef)

theorem renSlot_renV (σ : Sg) (a : AV) : RenV σ a (renSlot σ a) := by
  unfold renSlot
  split
  · rename_i l
    split
    · rename_i l' h; exact .inr (.inr ⟨l, l', rfl, rfl, h⟩)
    · exact .inl rfl
  · split
    · rename_i a' h; exact .inr (.inl h)
    · exact .inl rfl

def slotsOf (σ : Sg) (s : LSt) : List Nat → List (Nat × AV)
  | [] => []
  | x :: l => (x, renSlot σ (s.fr.get x)) :: slotsOf σ s l

theorem slotsOf_mem {σ : Sg} {s : LSt} : ∀ {l : List Nat} {x : Nat} {a : AV}, (x, a) ∈ slotsOf σ s l → a = renSlot σ (s.fr.get x)
  | [], _, _, h => by cases h
  | y :: l, x, a, h => by
    simp only [slotsOf, List.mem_cons, Prod.mk.injEq] at h
    rcases h with ⟨rfl, rfl⟩ | h
    · rfl
    · exact slotsOf_mem h

structure Cfg where
  n : Nat
  depth : Nat
  base : Nat
  live : List (Nat × List Nat)
  rf : Bool

/-- only these slots, and what they reach -/
def view (cf : Cfg) (s : LSt) (L : List Nat) : Option LSt :=
  let σ := viewSg s.hp cf.base (refsAt s L)
  bif σ.good && pinsOK σ cf.base then
    (match renP s.hp σ σ with
    | some hp' => some ⟨mkFr cf.depth (slotsOf σ s L), hp', cf.base + σ.length⟩
    | none => none)
  else none

structure CK (E : Env) (cf : Cfg) (C : Ctx) : Prop where
  gam : C.Γ = E.gam
  n : C.n = cf.n
  fit : cf.n < 2 ^ cf.depth
  pin : ∀ o ob, C.h0 o = some ob → o < cf.base
  rf : cf.rf = true → C.rd = none ∧ C.nm = false

theorem full_fits (cf : Cfg) (h : cf.n < 2 ^ cf.depth) (l : List (Nat × AV)) (hp : LHp) (nx : Nat) : (⟨mkFr cf.depth l, hp, nx⟩ : LSt).fits cf.n := by
  intro x hx
  rw [mkFr_has]
  exact Tr.has_full _ _ (by omega)

theorem view_ok {E : Env} {cf : Cfg} {C : Ctx} (hE : E.Good) (hC : CK E cf C) {s s' : LSt} {L : List Nat} (h : view cf s L = some s') : Le C s.toA s'.toA ∧ s'.fits cf.n := by
  unfold view at h
  simp only at h
  generalize viewSg s.hp cf.base (refsAt s L) = σ at h
  cases hb : σ.good && pinsOK σ cf.base with
  | false => rw [hb] at h; cases h
  | true =>
    rw [hb] at h
    simp only [Bool.and_eq_true] at hb
    simp only [cond_true] at h
    split at h
    · rename_i hp' hr
      cases h
      refine ⟨le_view (σ := σ) (fun g v hv => hE.gf g v (by rw [← hC.gam]; exact hv)) (handed_of hb.1 hr) ?_ (fun o ob ho => pinsOK_spec hb.2 o (hC.pin o ob ho)), full_fits cf hC.fit _ _ _⟩
      intro x
      show RenV σ (s.fr.get x) ((mkFr cf.depth (slotsOf σ s L)).get x)
      rcases mkFr_get cf.depth (slotsOf σ s L) x with h | ⟨a, h1, h2⟩
      · rw [h]; exact .inl rfl
      · rw [h2, slotsOf_mem h1]; exact renSlot_renV σ _
    · cases h

/-! ### code -/

def firstId : Code → Option Nat
  | .region id _ _ => some id
  | .seq a b => (match firstId a with | some i => some i | none => firstId b)
  | .block _ c => firstId c
  | .loop c => firstId c
  | .scope c => firstId c
  | .cond _ a b => (match firstId a with | some i => some i | none => firstId b)
  | _ => none

/-- at a loop's head -/
def nrm (cf : Cfg) (c : Code) (s : LSt) : Option LSt :=
  match firstId c with
  | some id => (match lk cf.live id with | some L => view cf s L | none => some s)
  | none => some s

theorem nrm_ok {E : Env} {cf : Cfg} {C : Ctx} (hE : E.Good) (hC : CK E cf C) {c : Code} {s s' : LSt} (hf : s.fits cf.n) (h : nrm cf c s = some s') : Le C s.toA s'.toA ∧ s'.fits cf.n := by
  unfold nrm at h
  split at h
  · split at h
    · exact view_ok hE hC h
    · cases h; exact ⟨Le.refl _ _, hf⟩
  · cases h; exact ⟨Le.refl _ _, hf⟩

/-- what the rounds of a loop over a function find in their slots -/
def slotsF (s : LSt) : List Nat → List (Nat × AV)
  | [] => []
  | x :: l => (x, s.fr.get x) :: slotsF s l
theorem slotsF_mem {s : LSt} : ∀ {l : List Nat} {p : Nat × AV}, p ∈ slotsF s l → p.2 = s.fr.get p.1
  | [], _, h => by cases h
  | y :: l, p, h => by
    simp only [slotsF, List.mem_cons] at h
    rcases h with rfl | h
    · rfl
    · exact slotsF_mem h
def loopLive (cf : Cfg) (c : Code) : List Nat :=
  match firstId c with
  | some id => (match lk cf.live id with | some L => L | none => [])
  | none => []

def condSet (c : Operand) (s : LSt) (b : Bool) : LSt := match c with | .tmp x => s.set x (.d .bool b) | _ => s

/-- every slot of the code is below n -/
def codeIn (n : Nat) : Code → Bool
  | .region _ ops _ => dstsBelow ops n
  | .seq a b => codeIn n a && codeIn n b
  | .cond c a b => (match c with | .tmp x => Nat.blt x n | _ => true) && codeIn n a && codeIn n b
  | .block _ c => codeIn n c
  | .loop c => codeIn n c
  | .scope c => codeIn n c
  | _ => true

/-- the slot that holds the slice of whose element the address is taken -/
def slotOf (all : List Oper) (p : Tmp) : Option Tmp :=
  match all.find? (fun o => match o.dst with | some d => Nat.beq d p | none => false) with
  | some o => (match o.op with
    | .indexAddr _ (.tmp y) _ =>
      (match all.find? (fun o => match o.dst with | some d => Nat.beq d y | none => false) with
      | some o' => (match o'.op with | .move (.tmp z) => some z | _ => some y)
      | none => some y)
    | _ => none)
  | none => none
def fzGo (all : List Oper) (s : LSt) : List Oper → List Nat
  | [] => []
  | o :: l =>
    match o.op with
    | .fieldAddr _ (.tmp p) _ =>
      (match slotOf all p with
      | some z => (match s.fr.get z with
        | .os q _ => (match hget s.hp q with | some (.arr _ e _ false _) => bif hasSl e then q :: fzGo all s l else fzGo all s l | _ => fzGo all s l)
        | _ => fzGo all s l)
      | none => fzGo all s l)
    | _ => fzGo all s l
/-- ahead of a region whose order is drawn: arrays of whose elements it takes addresses stand fixed -/
def preFz (all : List Oper) (s : LSt) : LSt := ⟨s.fr, fzAll s.hp (fzGo all s all) ++ s.hp, s.nx⟩
theorem preFz_le {C : Ctx} (all : List Oper) (s : LSt) : Le C s.toA (preFz all s).toA := by
  have h := fzAll_le (C := C) (s := s.toA) (hp := s.hp) rfl (fzGo all s all)
  have e : (preFz all s).toA = ⟨s.toA.fr, hpSet s.toA.hp (fzAll s.hp (fzGo all s all))⟩ := by
    unfold preFz LSt.toA
    simp only [hget_append]
  rw [e]; exact h

def ex (E : Env) (cf : Cfg) : Code → {R : Type} → LSt → (AEx → LSt → Option R) → Option R
  | .skip, _, s, k => k .normal s
  | .label _, _, s, k => k .normal s
  | .ret, _, s, k => k .ret s
  | .exit id, _, s, k => k (.exit id) s
  | .region _ ops dr, _, s, k =>
    bif dr then regD E cf.n ops ops.toList (preFz ops.toList s) [] (fun s' => k .normal s') (fun t m s' => k (.panic t m) s')
    else regN E cf.n ops ops.toList s (fun s' => k .normal s') (fun t m s' => k (.panic t m) s')
  | .seq a b, _, s, k => ex E cf a s fun e s' =>
    match e with
    | .normal => ex E cf b s' k
    | .exit id => k (.exit id) s'
    | .ret => k .ret s'
    | .panic t m => k (.panic t m) s'
  | .cond c a b, _, s, k =>
    (match s.ev E c with
    | .d .bool v => bif v then ex E cf a (condSet c s true) k else ex E cf b (condSet c s false) k
    | _ => none)
  | .block id c, _, s, k => ex E cf c s fun e s' =>
    match e with
    | .normal => k .normal s'
    | .exit i => bif Nat.beq i id then k .normal s' else k (.exit i) s'
    | .ret => k .ret s'
    | .panic t m => k (.panic t m) s'
  | .loop c, _, s, k =>
    (match nrm cf c s with
    | some s0 =>
      (loopM (fun st => ex E cf c st fun e s' =>
        match e with
        | .normal => (match nrm cf c s' with | some s'' => some (.next s'') | none => none)
        | .exit id => some (.done ((AEx.exit id, s') : AEx × LSt))
        | .ret => some (.done (AEx.ret, s'))
        | .panic t m => some (.done (AEx.panic t m, s'))) fu s0).bind fun es => k es.1 es.2
    | none => none)
  | .rangeFunc fop ps assign body, _, s, k =>
    bif cf.rf then
      (match s.ev E fop with
      | .fn (.func f) [] cap =>
        (match lk E.calls f, hget s.hp s.nx with
        | some g, none =>
          let hp1 : LHp := (s.nx, .rc (.loop ⟨cf.depth, ps, assign, body, cf.n⟩ (slotsF s (loopLive cf assign)) .ready)) :: s.hp
          callE g (.ref s.nx :: cap) ⟨s.fr, hp1, s.nx + 1⟩
            (fun e =>
              match hget (e.wr ++ hp1) s.nx with
              | some (.rc (.loop lc1 fr1 st)) =>
                (match st with
                | .ready => k .normal ⟨s.fr, (s.nx, .rc (.loop lc1 fr1 .over)) :: (e.wr ++ hp1), e.nx⟩
                | .done .ret => k .ret ⟨s.fr, (s.nx, .rc (.loop lc1 fr1 .over)) :: (e.wr ++ hp1), e.nx⟩
                | .done (.exit id) => k (.exit id) ⟨s.fr, (s.nx, .rc (.loop lc1 fr1 .over)) :: (e.wr ++ hp1), e.nx⟩
                | _ => none)
              | _ => none)
            (fun t m wr => k (.panic t m) ⟨s.fr, wr ++ hp1, s.nx + 1⟩)
        | _, _ => none)
      | _ => none)
    else none
  | _, _, _, _ => none

/-- what is asked of the state behind -/
def Post (C : Ctx) (n : Nat) (k : AEx → LSt → Option R) (r : R) : AEx → ASt → Prop := fun e s => ∃ st : LSt, Le C s st.toA ∧ st.fits n ∧ k e st = some r

theorem condSet_ok {E : Env} {c : Operand} {s : LSt} {n : Nat} {b : Bool} (hf : s.fits n) (hc : (match c with | .tmp x => Nat.blt x n | _ => true) = true) (h : s.ev E c = .d .bool b) : (condSet c s b).toA = s.toA ∧ (condSet c s b).fits n := by
  unfold condSet
  cases c with
  | tmp x => exact ⟨set_toA hf (Nat.le_of_ble_eq_true hc) h, set_fits hf _ _⟩
  | const v => exact ⟨rfl, hf⟩
  | global g => exact ⟨rfl, hf⟩
  | func f => exact ⟨rfl, hf⟩

theorem loopM_aw {P : Program} {C : Ctx} {n : Nat} {body : Code} {B : LSt → Option (Stp LSt (AEx × LSt))} {Q : AEx → ASt → Prop} : ∀ (m : Nat) (s0 : LSt) (es : AEx × LSt), loopM B m s0 = some es → s0.fits n →
    (∀ (st : LSt) (o : Stp LSt (AEx × LSt)), st.fits n → B st = some o → AW P C body (fun e s' => match o with
      | .next s'' => e = .normal ∧ Le C s' s''.toA ∧ s''.fits n
      | .done es => e ≠ .normal ∧ e = es.1 ∧ Le C s' es.2.toA ∧ es.2.fits n) st.toA) →
    (∀ s', Le C s' es.2.toA → es.2.fits n → es.1 ≠ .normal → Q es.1 s') → AW P C (.loop body) Q s0.toA := by
  intro m s0 es h hf round hq
  refine aw_loop (J := fun j s => ∃ st : LSt, s = st.toA ∧ st.fits n ∧ loopM B j st = some es) ⟨s0, rfl, hf, h⟩ ?_
  rintro j s ⟨st, rfl, hst, hj⟩
  cases j with
  | zero => cases hj
  | succ j =>
    simp only [loopM] at hj
    cases hB : B st with
    | none => rw [hB] at hj; cases hj
    | some o =>
      rw [hB] at hj
      refine aw_mono (round st o hst hB) ?_
      intro e s' hp
      cases o with
      | next s'' =>
        obtain ⟨rfl, hle, hf2⟩ := hp
        exact ⟨j, s''.toA, Nat.lt_succ_self _, hle, s'', rfl, hf2, hj⟩
      | done es' =>
        simp only [Option.some.injEq] at hj
        subst hj
        obtain ⟨hne, rfl, hle, hf2⟩ := hp
        have := hq s' hle hf2 hne
        generalize es'.1 = e at this hne
        cases e with
        | normal => exact (hne rfl).elim
        | exit id => exact this
        | ret => exact this
        | panic t m => exact this

theorem ex_ok {E : Env} {cf : Cfg} {C : Ctx} (hE : E.Good) (hmix : E.P.follows .mixedOrders = true) (hC : CK E cf C) : ∀ (c : Code) {R : Type} (s : LSt) (k : AEx → LSt → Option R) (r : R), codeIn cf.n c = true → s.fits cf.n → ex E cf c s k = some r → AW E.P C c (Post C cf.n k r) s.toA := by
  intro c
  induction c with
  | skip => intro R s k r _ hf h; exact aw_skip ⟨s, Le.refl _ _, hf, h⟩
  | label l => intro R s k r _ hf h; exact aw_label ⟨s, Le.refl _ _, hf, h⟩
  | ret => intro R s k r _ hf h; exact aw_ret ⟨s, Le.refl _ _, hf, h⟩
  | exit id => intro R s k r _ hf h; exact aw_exit ⟨s, Le.refl _ _, hf, h⟩
  | region id ops dr =>
    intro R s k r hd hf h
    have hdst : dstsBelow ops C.n = true := by rw [hC.n]; exact hd
    cases dr with
    | true => exact aw_weaken (preFz_le ops.toList s) <| aw_region_drawP _ hmix hdst (regD_ok (C := C) (Q := Post C cf.n k r) hE hC.gam hC.n hdst ops.toList 0 (preFz ops.toList s) [] (fun s' => k .normal s') (fun t m s' => k (.panic t m) s') rfl (Nat.zero_le _) rfl hf h (fun t m s' hk hf' => ⟨s', Le.refl _ _, hf', hk⟩) (fun st' hf' hk => ⟨st', Le.refl _ _, hf', hk⟩))
    | false => exact aw_region (regN_ok (C := C) (Q := Post C cf.n k r) hE hC.gam hC.n hdst ops.toList 0 s (fun s' => k .normal s') (fun t m s' => k (.panic t m) s') rfl (Nat.zero_le _) hf h (fun t m s' hk hf' => ⟨s', Le.refl _ _, hf', hk⟩) (fun st' hf' hk => ⟨st', Le.refl _ _, hf', hk⟩))
  | seq a b iha ihb =>
    intro R s k r hd hf h
    simp only [codeIn, Bool.and_eq_true] at hd
    refine aw_seq (aw_mono (iha s _ r hd.1 hf h) ?_)
    rintro e s' ⟨st, hle, hf', hk⟩
    cases e with
    | normal => exact aw_weaken hle (ihb st k r hd.2 hf' hk)
    | exit id => exact ⟨st, hle, hf', hk⟩
    | ret => exact ⟨st, hle, hf', hk⟩
    | panic t m => exact ⟨st, hle, hf', hk⟩
  | cond c a b iha ihb =>
    intro R s k r hd hf h
    simp only [codeIn, Bool.and_eq_true] at hd
    simp only [ex] at h
    split at h
    · rename_i v hv
      refine aw_cond (b := v) ((ev_eq hC.gam s c).trans hv) ?_ ?_
      · rintro rfl
        obtain ⟨e1, f1⟩ := condSet_ok hf hd.1.1 hv
        have := iha _ k r hd.1.2 f1 h
        rw [e1] at this; exact this
      · rintro rfl
        obtain ⟨e1, f1⟩ := condSet_ok hf hd.1.1 hv
        have := ihb _ k r hd.2 f1 h
        rw [e1] at this; exact this
    · cases h
  | block id c ih =>
    intro R s k r hd hf h
    refine aw_block (aw_mono (ih s _ r hd hf h) ?_)
    rintro e s' ⟨st, hle, hf', hk⟩
    cases e with
    | normal => exact ⟨st, hle, hf', hk⟩
    | ret => exact ⟨st, hle, hf', hk⟩
    | panic t m => exact ⟨st, hle, hf', hk⟩
    | exit i =>
      simp only at hk
      simp only [AEx.inBlk]
      cases hb : Nat.beq i id with
      | true => rw [hb] at hk; exact ⟨st, hle, hf', hk⟩
      | false => rw [hb] at hk; exact ⟨st, hle, hf', hk⟩
  | loop c ih =>
    intro R s k r hd hf h
    simp only [ex] at h
    split at h
    · rename_i s0 hs0
      obtain ⟨hle0, hf0⟩ := nrm_ok hE hC hf hs0
      obtain ⟨es, hes, hk⟩ := bind_some h
      refine aw_weaken hle0 (loopM_aw fu s0 es hes hf0 ?_ (fun s' hle hf' _ => ⟨es.2, hle, hf', hk⟩))
      intro st o hst hB
      refine aw_mono (ih st _ o hd hst hB) ?_
      rintro e s' ⟨st', hle, hf', hk'⟩
      cases e with
      | normal =>
        simp only at hk'
        split at hk'
        · rename_i s'' hs''
          cases hk'
          obtain ⟨hle2, hf2⟩ := nrm_ok hE hC hf' hs''
          exact ⟨rfl, hle.trans hle2, hf2⟩
        · cases hk'
      | exit id => cases hk'; exact ⟨by simp, rfl, hle, hf'⟩
      | ret => cases hk'; exact ⟨by simp, rfl, hle, hf'⟩
      | panic t m => cases hk'; exact ⟨by simp, rfl, hle, hf'⟩
    · cases h
  | rangeFunc fop ps assign body _ _ =>
    intro R s k r hd hf h
    simp only [ex] at h
    cases hrf : cf.rf with
    | false => rw [hrf] at h; cases h
    | true =>
      rw [hrf] at h
      simp only [cond_true] at h
      obtain ⟨hrd, hnm⟩ := hC.rf hrf
      split at h
      · rename_i f cap hx
        split at h
        · rename_i g hg h0
          obtain ⟨σ, σ', args', hs, ae, hs', wr, c1, c2, c3, c4, c5, c6⟩ := callE_some (hE.calls _ (lk_mem hg)) h
          have hGF : GlobFree C := fun gg v hv => hE.gf gg v (by rw [← hC.gam]; exact hv)
          rw [← hC.gam] at c3
          have e1 : hget ((s.nx, AObj.rc (.loop ⟨cf.depth, ps, assign, body, cf.n⟩ (slotsF s (loopLive cf assign)) .ready)) :: s.hp) = hpSet (hget s.hp) [(s.nx, .rc (.loop ⟨cf.depth, ps, assign, body, cf.n⟩ (slotsF s (loopLive cf assign)) .ready))] := hget_append [_] s.hp
          rw [e1] at c2 c4
          refine aw_rangeFunc (o := s.nx) (d := cf.depth) hGF hnm hrd ((ev_eq hC.gam s fop).trans hx) h0 (fun p hp => slotsF_mem hp) (by rw [hC.n]) c1 c2 c3 c4 ?_ ?_
          · intro rs hrs
            rcases c6 with ⟨rs1, rs', e2, _, hk⟩ | ⟨t, n, e2, _⟩
            · simp only at hk
              split at hk
              · rename_i lc1 fr1 st hst
                rw [hget_append, e1] at hst
                refine ⟨lc1, fr1, st, hst, ?_⟩
                have hle : ∀ nx, Le C ⟨s.fr.get, hpSet (hpSet (hpSet (hget s.hp) [(s.nx, .rc (.loop ⟨cf.depth, ps, assign, body, cf.n⟩ (slotsF s (loopLive cf assign)) .ready))]) wr) [(s.nx, .rc (.loop lc1 fr1 .over))]⟩
                    (⟨s.fr, (s.nx, .rc (.loop lc1 fr1 .over)) :: (wr ++ ((s.nx, AObj.rc (.loop ⟨cf.depth, ps, assign, body, cf.n⟩ (slotsF s (loopLive cf assign)) .ready)) :: s.hp)), nx⟩ : LSt).toA := fun nx => by
                  rw [← e1, ← hget_append, ← hget_append]
                  exact Le.refl _ _
                split at hk
                · exact ⟨_, hle _, hf, hk⟩
                · exact ⟨_, hle _, hf, hk⟩
                · exact ⟨_, hle _, hf, hk⟩
                · cases hk
              · cases hk
            · rw [e2] at hrs; cases hrs
          · intro t n hp
            rcases c6 with ⟨rs1, rs', e2, _, _⟩ | ⟨t', n', e2, hk⟩
            · rw [e2] at hp; cases hp
            · rw [e2] at hp
              cases hp
              refine ⟨⟨s.fr, wr ++ _, s.nx + 1⟩, ?_, hf, hk⟩
              show Le C _ (LSt.toA _)
              unfold LSt.toA
              simp only
              rw [hget_append, e1]
              exact Le.refl _ _
        · cases h
      · cases h
  | _ => intro R s k r _ _ h; cases h

end Go.Vm
