/- Part R of the abstract machine: the executor of code and functions; its soundness. -/
import Derived.Test.YtbijfcooljoogaaGreatDoorS2
import Derived.Lib.Bytealg
import Derived.Recover
import Derived.OpenShut
import Derived.RowKit3
import Derived.LaidLaws
import Derived.Lib.LaidTab
import Derived.Deep.DeepHandedRow
import Derived.Carry
import Derived.Test.YtbijfcooljoogaaGreatDoorProg
import Derived.Shelf.RegionOpenPlain
import Derived.WalkKit
import Derived.Lib.Walk
import Derived.Lib.SliceRun
namespace Go.Vm

universe u
variable {R : Type}

/-! ### a state seen anew -/

/-- the objects that were handed in keep their names, the others are numbered anew -/
def sgView (hp : LHp) (base : Nat) : List Nat → Nat → Sg
  | [], _ => []
  | o :: l, j => bif Nat.blt o base then (o, o, .keep) :: sgView hp base l j else (o, j, verIn hp o) :: sgView hp base l (j + 1)

def rangeL : Nat → Nat → List Nat
  | 0, _ => []
  | n + 1, i => i :: rangeL n (i + 1)

/-- are they all there under their own names? -/
def pinsOK (σ : Sg) : Nat → Bool
  | 0 => true
  | n + 1 => (match σ.get n with | some (o', .keep) => Nat.beq o' n | _ => false) && pinsOK σ n

theorem pinsOK_spec {σ : Sg} : ∀ {n : Nat}, pinsOK σ n = true → ∀ o, o < n → σ.get o = some (o, .keep)
  | 0, _, o, ho => by omega
  | n + 1, h, o, ho => by
    simp only [pinsOK, Bool.and_eq_true] at h
    by_cases e : o = n
    · subst e
      obtain ⟨h1, _⟩ := h
      split at h1
      · rename_i o' hg
        rw [hg, Nat.eq_of_beq_eq_true h1]
      · cases h1
    · exact pinsOK_spec h.2 o (by omega)

def rev : List Nat → List Nat → List Nat
  | [], acc => acc
  | a :: l, acc => rev l (a :: acc)

def viewSg (hp : LHp) (base : Nat) (roots : List Nat) : Sg :=
  sgView hp base (rev (reach hp manyFuel (rangeL base 0 ++ roots) []) []) base

def refsAt (s : LSt) : List Nat → List Nat
  | [] => []
  | x :: l => (s.fr.get x).refs ++ refsAt s l

def renSlot (σ : Sg) : AV → AV
  | .tup l => (match rens σ l with | some l' => .tup l' | none => .undef)
  | a => (match a.ren σ with | some a' => a' | none => .undef)

theorem renSlot_renV (σ : Sg) (a : AV) : RenV σ a (renSlot σ a) := by
  unfold renSlot
  split
  · rename_i l
    split
    · rename_i l' h; exact .inr (.inr ⟨l, l', rfl, rfl, h⟩)
    · exact .inl rfl
  · split
    · rename_i a' h; exact .inr (.inl h)
    · exact .inl rfl

def slotsOf (σ : Sg) (s : LSt) : List Nat → List (Nat × AV)
  | [] => []
  | x :: l => (x, renSlot σ (s.fr.get x)) :: slotsOf σ s l

theorem slotsOf_mem {σ : Sg} {s : LSt} : ∀ {l : List Nat} {x : Nat} {a : AV}, (x, a) ∈ slotsOf σ s l → a = renSlot σ (s.fr.get x)
  | [], _, _, h => by cases h
  | y :: l, x, a, h => by
    simp only [slotsOf, List.mem_cons, Prod.mk.injEq] at h
    rcases h with ⟨rfl, rfl⟩ | h
    · rfl
    · exact slotsOf_mem h

structure Cfg where
  n : Nat
  depth : Nat
  base : Nat
  live : List (Nat × List Nat)
  rf : Bool

/-- only these slots, and what they reach -/
def view (cf : Cfg) (s : LSt) (L : List Nat) : Option LSt :=
  let σ := viewSg s.hp cf.base (refsAt s L)
  bif σ.good && pinsOK σ cf.base then
    (match renP s.hp σ σ with
    | some hp' => some ⟨mkFr cf.depth (slotsOf σ s L), hp', cf.base + σ.length⟩
    | none => none)
  else none

structure CK (E : Env) (cf : Cfg) (C : Ctx) : Prop where
  gam : C.Γ = E.gam
  n : C.n = cf.n
  fit : cf.n < 2 ^ cf.depth
  pin : ∀ o ob, C.h0 o = some ob → o < cf.base
  rf : cf.rf = true → C.rd = none ∧ C.nm = false

theorem full_fits (cf : Cfg) (h : cf.n < 2 ^ cf.depth) (l : List (Nat × AV)) (hp : LHp) (nx : Nat) : (⟨mkFr cf.depth l, hp, nx⟩ : LSt).fits cf.n := by
  intro x hx
  rw [mkFr_has]
  exact Tr.has_full _ _ (by omega)

theorem view_ok {E : Env} {cf : Cfg} {C : Ctx} (hE : E.Good) (hC : CK E cf C) {s s' : LSt} {L : List Nat} (h : view cf s L = some s') : Le C s.toA s'.toA ∧ s'.fits cf.n := by
  unfold view at h
  simp only at h
  generalize viewSg s.hp cf.base (refsAt s L) = σ at h
  cases hb : σ.good && pinsOK σ cf.base with
  | false => rw [hb] at h; cases h
  | true =>
    rw [hb] at h
    simp only [Bool.and_eq_true] at hb
    simp only [cond_true] at h
    split at h
    · rename_i hp' hr
      cases h
      refine ⟨le_view (σ := σ) (fun g v hv => hE.gf g v (by rw [← hC.gam]; exact hv)) (handed_of hb.1 hr) ?_ (fun o ob ho => pinsOK_spec hb.2 o (hC.pin o ob ho)), full_fits cf hC.fit _ _ _⟩
      intro x
      show RenV σ (s.fr.get x) ((mkFr cf.depth (slotsOf σ s L)).get x)
      rcases mkFr_get cf.depth (slotsOf σ s L) x with h | ⟨a, h1, h2⟩
      · rw [h]; exact .inl rfl
      · rw [h2, slotsOf_mem h1]; exact renSlot_renV σ _
    · cases h

/-! ### code -/

def firstId : Code → Option Nat
  | .region id _ _ => some id
  | .seq a b => (match firstId a with | some i => some i | none => firstId b)
  | .block _ c => firstId c
  | .loop c => firstId c
  | .scope c => firstId c
  | .cond _ a b => (match firstId a with | some i => some i | none => firstId b)
  | _ => none

/-- at a loop's head -/
def nrm (cf : Cfg) (c : Code) (s : LSt) : Option LSt :=
  match firstId c with
  | some id => (match lk cf.live id with | some L => view cf s L | none => some s)
  | none => some s

theorem nrm_ok {E : Env} {cf : Cfg} {C : Ctx} (hE : E.Good) (hC : CK E cf C) {c : Code} {s s' : LSt} (hf : s.fits cf.n) (h : nrm cf c s = some s') : Le C s.toA s'.toA ∧ s'.fits cf.n := by
  unfold nrm at h
  split at h
  · split at h
    · exact view_ok hE hC h
    · cases h; exact ⟨Le.refl _ _, hf⟩
  · cases h; exact ⟨Le.refl _ _, hf⟩

/-- what the rounds of a loop over a function find in their slots -/
def slotsF (s : LSt) : List Nat → List (Nat × AV)
  | [] => []
  | x :: l => (x, s.fr.get x) :: slotsF s l
theorem slotsF_mem {s : LSt} : ∀ {l : List Nat} {p : Nat × AV}, p ∈ slotsF s l → p.2 = s.fr.get p.1
  | [], _, h => by cases h
  | y :: l, p, h => by
    simp only [slotsF, List.mem_cons] at h
    rcases h with rfl | h
    · rfl
    · exact slotsF_mem h
def loopLive (cf : Cfg) (c : Code) : List Nat :=
  match firstId c with
  | some id => (match lk cf.live id with | some L => L | none => [])
  | none => []

def condSet (c : Operand) (s : LSt) (b : Bool) : LSt := match c with | .tmp x => s.set x (.d .bool b) | _ => s

/-- every slot of the code is below n -/
def codeIn (n : Nat) : Code → Bool
  | .region _ ops _ => dstsBelow ops n
  | .seq a b => codeIn n a && codeIn n b
  | .cond c a b => (match c with | .tmp x => Nat.blt x n | _ => true) && codeIn n a && codeIn n b
  | .block _ c => codeIn n c
  | .loop c => codeIn n c
  | .scope c => codeIn n c
  | _ => true

/-- the slot that holds the slice of whose element the address is taken -/
def slotOf (all : List Oper) (p : Tmp) : Option Tmp :=
  match all.find? (fun o => match o.dst with | some d => Nat.beq d p | none => false) with
  | some o => (match o.op with
    | .indexAddr _ (.tmp y) _ =>
      (match all.find? (fun o => match o.dst with | some d => Nat.beq d y | none => false) with
      | some o' => (match o'.op with | .move (.tmp z) => some z | _ => some y)
      | none => some y)
    | _ => none)
  | none => none
def fzGo (all : List Oper) (s : LSt) : List Oper → List Nat
  | [] => []
  | o :: l =>
    match o.op with
    | .fieldAddr _ (.tmp p) _ =>
      (match slotOf all p with
      | some z => (match s.fr.get z with
        | .os q _ => (match hget s.hp q with | some (.arr _ e _ false _) => bif hasSl e then q :: fzGo all s l else fzGo all s l | _ => fzGo all s l)
        | _ => fzGo all s l)
      | none => fzGo all s l)
    | _ => fzGo all s l
/-- ahead of a region whose order is drawn: arrays of whose elements it takes addresses stand fixed -/
def preFz (all : List Oper) (s : LSt) : LSt := ⟨s.fr, fzAll s.hp (fzGo all s all) ++ s.hp, s.nx⟩
theorem preFz_le {C : Ctx} (all : List Oper) (s : LSt) : Le C s.toA (preFz all s).toA := by
  have h := fzAll_le (C := C) (s := s.toA) (hp := s.hp) rfl (fzGo all s all)
  have e : (preFz all s).toA = ⟨s.toA.fr, hpSet s.toA.hp (fzAll s.hp (fzGo all s all))⟩ := by
    unfold preFz LSt.toA
    simp only [hget_append]
  rw [e]; exact h

def ex (E : Env) (cf : Cfg) : Code → {R : Type} → LSt → (AEx → LSt → Option R) → Option R
  | .skip, _, s, k => k .normal s
  | .label _, _, s, k => k .normal s
  | .ret, _, s, k => k .ret s
  | .exit id, _, s, k => k (.exit id) s
  | .region _ ops dr, _, s, k =>
    bif dr then regD E cf.n ops ops.toList (preFz ops.toList s) [] (fun s' => k .normal s') (fun t m s' => k (.panic t m) s')
    else regN E cf.n ops ops.toList s (fun s' => k .normal s') (fun t m s' => k (.panic t m) s')
  | .seq a b, _, s, k => ex E cf a s fun e s' =>
    match e with
    | .normal => ex E cf b s' k
    | .exit id => k (.exit id) s'
    | .ret => k .ret s'
    | .panic t m => k (.panic t m) s'
  | .cond c a b, _, s, k =>
    (match s.ev E c with
    | .d .bool v => bif v then ex E cf a (condSet c s true) k else ex E cf b (condSet c s false) k
    | _ => none)
  | .block id c, _, s, k => ex E cf c s fun e s' =>
    match e with
    | .normal => k .normal s'
    | .exit i => bif Nat.beq i id then k .normal s' else k (.exit i) s'
    | .ret => k .ret s'
    | .panic t m => k (.panic t m) s'
  | .loop c, _, s, k =>
    (match nrm cf c s with
    | some s0 =>
      (loopM (fun st => ex E cf c st fun e s' =>
        match e with
        | .normal => (match nrm cf c s' with | some s'' => some (.next s'') | none => none)
        | .exit id => some (.done ((AEx.exit id, s') : AEx × LSt))
        | .ret => some (.done (AEx.ret, s'))
        | .panic t m => some (.done (AEx.panic t m, s'))) fu s0).bind fun es => k es.1 es.2
    | none => none)
  | .rangeFunc fop ps assign body, _, s, k =>
    bif cf.rf then
      (match s.ev E fop with
      | .fn (.func f) [] cap =>
        (match lk E.calls f, hget s.hp s.nx with
        | some g, none =>
          let hp1 : LHp := (s.nx, .rc (.loop ⟨cf.depth, ps, assign, body, cf.n⟩ (slotsF s (loopLive cf assign)) .ready)) :: s.hp
          callE g (.ref s.nx :: cap) ⟨s.fr, hp1, s.nx + 1⟩
            (fun e =>
              match hget (e.wr ++ hp1) s.nx with
              | some (.rc (.loop lc1 fr1 st)) =>
                (match st with
                | .ready => k .normal ⟨s.fr, (s.nx, .rc (.loop lc1 fr1 .over)) :: (e.wr ++ hp1), e.nx⟩
                | .done .ret => k .ret ⟨s.fr, (s.nx, .rc (.loop lc1 fr1 .over)) :: (e.wr ++ hp1), e.nx⟩
                | .done (.exit id) => k (.exit id) ⟨s.fr, (s.nx, .rc (.loop lc1 fr1 .over)) :: (e.wr ++ hp1), e.nx⟩
                | _ => none)
              | _ => none)
            (fun t m wr => k (.panic t m) ⟨s.fr, wr ++ hp1, s.nx + 1⟩)
        | _, _ => none)
      | _ => none)
    else none
  | _, _, _, _ => none

/-- what is asked of the state behind -/
def Post (C : Ctx) (n : Nat) (k : AEx → LSt → Option R) (r : R) : AEx → ASt → Prop := fun e s => ∃ st : LSt, Le C s st.toA ∧ st.fits n ∧ k e st = some r

theorem condSet_ok {E : Env} {c : Operand} {s : LSt} {n : Nat} {b : Bool} (hf : s.fits n) (hc : (match c with | .tmp x => Nat.blt x n | _ => true) = true) (h : s.ev E c = .d .bool b) : (condSet c s b).toA = s.toA ∧ (condSet c s b).fits n := by
  unfold condSet
  cases c with
  | tmp x => exact ⟨set_toA hf (Nat.le_of_ble_eq_true hc) h, set_fits hf _ _⟩
  | const v => exact ⟨rfl, hf⟩
  | global g => exact ⟨rfl, hf⟩
  | func f => exact ⟨rfl, hf⟩

theorem loopM_aw {P : Program} {C : Ctx} {n : Nat} {body : Code} {B : LSt → Option (Stp LSt (AEx × LSt))} {Q : AEx → ASt → Prop} : ∀ (m : Nat) (s0 : LSt) (es : AEx × LSt), loopM B m s0 = some es → s0.fits n →
    (∀ (st : LSt) (o : Stp LSt (AEx × LSt)), st.fits n → B st = some o → AW P C body (fun e s' => match o with
      | .next s'' => e = .normal ∧ Le C s' s''.toA ∧ s''.fits n
      | .done es => e ≠ .normal ∧ e = es.1 ∧ Le C s' es.2.toA ∧ es.2.fits n) st.toA) →
    (∀ s', Le C s' es.2.toA → es.2.fits n → es.1 ≠ .normal → Q es.1 s') → AW P C (.loop body) Q s0.toA := by
  intro m s0 es h hf round hq
  refine aw_loop (J := fun j s => ∃ st : LSt, s = st.toA ∧ st.fits n ∧ loopM B j st = some es) ⟨s0, rfl, hf, h⟩ ?_
  rintro j s ⟨st, rfl, hst, hj⟩
  cases j with
  | zero => cases hj
  | succ j =>
    simp only [loopM] at hj
    cases hB : B st with
    | none => rw [hB] at hj; cases hj
    | some o =>
      rw [hB] at hj
      refine aw_mono (round st o hst hB) ?_
      intro e s' hp
      cases o with
      | next s'' =>
        obtain ⟨rfl, hle, hf2⟩ := hp
        exact ⟨j, s''.toA, Nat.lt_succ_self _, hle, s'', rfl, hf2, hj⟩
      | done es' =>
        simp only [Option.some.injEq] at hj
        subst hj
        obtain ⟨hne, rfl, hle, hf2⟩ := hp
        have := hq s' hle hf2 hne
        generalize es'.1 = e at this hne
        cases e with
        | normal => exact (hne rfl).elim
        | exit id => exact this
        | ret => exact this
        | panic t m => exact this

theorem ex_ok {E : Env} {cf : Cfg} {C : Ctx} (hE : E.Good) (hmix : E.P.follows .mixedOrders = true) (hC : CK E cf C) : ∀ (c : Code) {R : Type} (s : LSt) (k : AEx → LSt → Option R) (r : R), codeIn cf.n c = true → s.fits cf.n → ex E cf c s k = some r → AW E.P C c (Post C cf.n k r) s.toA := by
  intro c
  induction c with
  | skip => intro R s k r _ hf h; exact aw_skip ⟨s, Le.refl _ _, hf, h⟩
  | label l => intro R s k r _ hf h; exact aw_label ⟨s, Le.refl _ _, hf, h⟩
  | ret => intro R s k r _ hf h; exact aw_ret ⟨s, Le.refl _ _, hf, h⟩
  | exit id => intro R s k r _ hf h; exact aw_exit ⟨s, Le.refl _ _, hf, h⟩
  | region id ops dr =>
    intro R s k r hd hf h
    have hdst : dstsBelow ops C.n = true := by rw [hC.n]; exact hd
    cases dr with
    | true => exact aw_weaken (preFz_le ops.toList s) <| aw_region_drawP _ hmix hdst (regD_ok (C := C) (Q := Post C cf.n k r) hE hC.gam hC.n hdst ops.toList 0 (preFz ops.toList s) [] (fun s' => k .normal s') (fun t m s' => k (.panic t m) s') rfl (Nat.zero_le _) rfl hf h (fun t m s' hk hf' => ⟨s', Le.refl _ _, hf', hk⟩) (fun st' hf' hk => ⟨st', Le.refl _ _, hf', hk⟩))
    | false => exact aw_region (regN_ok (C := C) (Q := Post C cf.n k r) hE hC.gam hC.n hdst ops.toList 0 s (fun s' => k .normal s') (fun t m s' => k (.panic t m) s') rfl (Nat.zero_le _) hf h (fun t m s' hk hf' => ⟨s', Le.refl _ _, hf', hk⟩) (fun st' hf' hk => ⟨st', Le.refl _ _, hf', hk⟩))
  | seq a b iha ihb =>
    intro R s k r hd hf h
    simp only [codeIn, Bool.and_eq_true] at hd
    refine aw_seq (aw_mono (iha s _ r hd.1 hf h) ?_)
    rintro e s' ⟨st, hle, hf', hk⟩
    cases e with
    | normal => exact aw_weaken hle (ihb st k r hd.2 hf' hk)
    | exit id => exact ⟨st, hle, hf', hk⟩
    | ret => exact ⟨st, hle, hf', hk⟩
    | panic t m => exact ⟨st, hle, hf', hk⟩
  | cond c a b iha ihb =>
    intro R s k r hd hf h
    simp only [codeIn, Bool.and_eq_true] at hd
    simp only [ex] at h
    split at h
    · rename_i v hv
      refine aw_cond (b := v) ((ev_eq hC.gam s c).trans hv) ?_ ?_
      · rintro rfl
        obtain ⟨e1, f1⟩ := condSet_ok hf hd.1.1 hv
        have := iha _ k r hd.1.2 f1 h
        rw [e1] at this; exact this
      · rintro rfl
        obtain ⟨e1, f1⟩ := condSet_ok hf hd.1.1 hv
        have := ihb _ k r hd.2 f1 h
        rw [e1] at this; exact this
    · cases h
  | block id c ih =>
    intro R s k r hd hf h
    refine aw_block (aw_mono (ih s _ r hd hf h) ?_)
    rintro e s' ⟨st, hle, hf', hk⟩
    cases e with
    | normal => exact ⟨st, hle, hf', hk⟩
    | ret => exact ⟨st, hle, hf', hk⟩
    | panic t m => exact ⟨st, hle, hf', hk⟩
    | exit i =>
      simp only at hk
      simp only [AEx.inBlk]
      cases hb : Nat.beq i id with
      | true => rw [hb] at hk; exact ⟨st, hle, hf', hk⟩
      | false => rw [hb] at hk; exact ⟨st, hle, hf', hk⟩
  | loop c ih =>
    intro R s k r hd hf h
    simp only [ex] at h
    split at h
    · rename_i s0 hs0
      obtain ⟨hle0, hf0⟩ := nrm_ok hE hC hf hs0
      obtain ⟨es, hes, hk⟩ := bind_some h
      refine aw_weaken hle0 (loopM_aw fu s0 es hes hf0 ?_ (fun s' hle hf' _ => ⟨es.2, hle, hf', hk⟩))
      intro st o hst hB
      refine aw_mono (ih st _ o hd hst hB) ?_
      rintro e s' ⟨st', hle, hf', hk'⟩
      cases e with
      | normal =>
        simp only at hk'
        split at hk'
        · rename_i s'' hs''
          cases hk'
          obtain ⟨hle2, hf2⟩ := nrm_ok hE hC hf' hs''
          exact ⟨rfl, hle.trans hle2, hf2⟩
        · cases hk'
      | exit id => cases hk'; exact ⟨by simp, rfl, hle, hf'⟩
      | ret => cases hk'; exact ⟨by simp, rfl, hle, hf'⟩
      | panic t m => cases hk'; exact ⟨by simp, rfl, hle, hf'⟩
    · cases h
  | rangeFunc fop ps assign body _ _ =>
    intro R s k r hd hf h
    simp only [ex] at h
    cases hrf : cf.rf with
    | false => rw [hrf] at h; cases h
    | true =>
      rw [hrf] at h
      simp only [cond_true] at h
      obtain ⟨hrd, hnm⟩ := hC.rf hrf
      split at h
      · rename_i f cap hx
        split at h
        · rename_i g hg h0
          obtain ⟨σ, σ', args', hs, ae, hs', wr, c1, c2, c3, c4, c5, c6⟩ := callE_some (hE.calls _ (lk_mem hg)) h
          have hGF : GlobFree C := fun gg v hv => hE.gf gg v (by rw [← hC.gam]; exact hv)
          rw [← hC.gam] at c3
          have e1 : hget ((s.nx, AObj.rc (.loop ⟨cf.depth, ps, assign, body, cf.n⟩ (slotsF s (loopLive cf assign)) .ready)) :: s.hp) = hpSet (hget s.hp) [(s.nx, .rc (.loop ⟨cf.depth, ps, assign, body, cf.n⟩ (slotsF s (loopLive cf assign)) .ready))] := hget_append [_] s.hp
          rw [e1] at c2 c4
          refine aw_rangeFunc (o := s.nx) (d := cf.depth) hGF hnm hrd ((ev_eq hC.gam s fop).trans hx) h0 (fun p hp => slotsF_mem hp) (by rw [hC.n]) c1 c2 c3 c4 ?_ ?_
          · intro rs hrs
            rcases c6 with ⟨rs1, rs', e2, _, hk⟩ | ⟨t, n, e2, _⟩
            · simp only at hk
              split at hk
              · rename_i lc1 fr1 st hst
                rw [hget_append, e1] at hst
                refine ⟨lc1, fr1, st, hst, ?_⟩
                have hle : ∀ nx, Le C ⟨s.fr.get, hpSet (hpSet (hpSet (hget s.hp) [(s.nx, .rc (.loop ⟨cf.depth, ps, assign, body, cf.n⟩ (slotsF s (loopLive cf assign)) .ready))]) wr) [(s.nx, .rc (.loop lc1 fr1 .over))]⟩
                    (⟨s.fr, (s.nx, .rc (.loop lc1 fr1 .over)) :: (wr ++ ((s.nx, AObj.rc (.loop ⟨cf.depth, ps, assign, body, cf.n⟩ (slotsF s (loopLive cf assign)) .ready)) :: s.hp)), nx⟩ : LSt).toA := fun nx => by
                  rw [← e1, ← hget_append, ← hget_append]
                  exact Le.refl _ _
                split at hk
                · exact ⟨_, hle _, hf, hk⟩
                · exact ⟨_, hle _, hf, hk⟩
                · exact ⟨_, hle _, hf, hk⟩
                · cases hk
              · cases hk
            · rw [e2] at hrs; cases hrs
          · intro t n hp
            rcases c6 with ⟨rs1, rs', e2, _, _⟩ | ⟨t', n', e2, hk⟩
            · rw [e2] at hp; cases hp
            · rw [e2] at hp
              cases hp
              refine ⟨⟨s.fr, wr ++ _, s.nx + 1⟩, ?_, hf, hk⟩
              show Le C _ (LSt.toA _)
              unfold LSt.toA
              simp only
              rw [hget_append, e1]
              exact Le.refl _ _
        · cases h
      · cases h
  | _ => intro R s k r _ _ h; cases h

end Go.Vm
namespace Go.Vm

universe u
variable {R : Type}

section
variable {P : Program} {C : Ctx}

/-- what a view keeps of the objects that were handed in -/
theorem pin_view {s : ASt} {im : Nat → Prop} {μ : Mu} {a : Act} {w : World} {σ : Sg} {h1 : Hp} (hi : Inv C im μ s a w) (hS : SgOK σ μ (muIn σ μ) s.hp h1) (hpin : ∀ o ob, C.h0 o = some ob → σ.get o = some (o, .keep)) :
    ∀ o ob, C.h0 o = some ob → ∃ ob', h1 o = some ob' ∧ ObEv ob (C.μ0 o) ob' (muIn σ μ o) := by
  intro o ob h
  have hσ := hpin o ob h
  obtain ⟨ob1, h1, h2⟩ := hi.pin o ob h
  obtain ⟨g1, g2⟩ := hS.ob o o .keep hσ
  obtain ⟨ob2, h3, h4⟩ := g2 ob1 h1
  refine ⟨ob2, h3, ?_⟩
  rw [g1]
  cases ob1 with
  | box v =>
    cases ob2 with
    | arr _ _ _ _ _ => exact h4.elim
    | rc _ => exact h4.elim
    | box v2 =>
      cases ob with
      | box v0 => exact h2
      | rc _ => exact h2.elim
      | arr T e m z xs => obtain ⟨_, _, _, h5, _⟩ := h2; cases h5
  | rc v =>
    cases ob2 with
    | arr _ _ _ _ _ => exact h4.elim
    | box _ => exact h4.elim
    | rc v2 =>
      cases ob with
      | box v0 => exact h2.elim
      | rc _ => exact ⟨h2.1, (show v2.isMap = v.isMap from h4).trans h2.2⟩
      | arr T e m z xs => obtain ⟨_, _, _, h5, _⟩ := h2; cases h5
  | arr T e m z xs =>
    obtain ⟨m', h5, rfl⟩ := h4
    cases h5
    exact h2

theorem Inv.hpStepV {W : World} {im im' : Nat → Prop} {μ μ' : Mu} {h0 h1 : Hp} {Γ : Nat → Option AV} {ds : List Deferred} {n : Nat} {rd : Option Nat} {nm : Bool} {s : ASt} {a : Act} {w : World} {σ : Sg} (hi : Inv ⟨W, im, fun b => ∃ o, (μ o).blk = some b, n, ds, Γ, h0, μ, rd, nm⟩ im' μ' s a w)
    (H : Handed σ s.hp h1) (hpin : ∀ o ob, h0 o = some ob → σ.get o = some (o, .keep)) : HpStep W im μ h0 w im' (muIn σ μ') h1 ∧ SgOK σ μ' (muIn σ μ') s.hp h1 := by
  obtain ⟨hI, hS⟩ := H.inv (fun o b h => ⟨(hi.sep o b h).1, (hi.sep o b h).2.1⟩) hi.inj hi.obj
  refine ⟨⟨hi.os, hi.tape, hi.output, hi.grow, fun b hb hno => hi.old b hb (fun ⟨o, ho⟩ => hno o ho), hi.imC, hi.imNew, hi.imLt, fun o b h => ?_, pin_view hi hS hpin, hI⟩, hS⟩
  unfold muIn at h
  cases hq : σ.inv o with
  | none => rw [hq] at h; cases h
  | some o1 => rw [hq] at h; exact (hi.sep o1 b h).2.2

/-- how a body's end becomes the call's; what is handed back is seen anew -/
def EndsV (P : Program) (fn : Func) (h0 : Hp) (R : AEnd → Hp → Prop) : AEx → ASt → Prop
  | .normal, s | .ret, s => ∃ rs σ h1 rs', RetAll P s fn.results.toList rs ∧ Handed σ s.hp h1 ∧ rens σ rs = some rs' ∧ (∀ o ob, h0 o = some ob → σ.get o = some (o, .keep)) ∧ R (.ret rs') h1
  | .panic t n, s => ∃ σ h1, Handed σ s.hp h1 ∧ (∀ o ob, h0 o = some ob → σ.get o = some (o, .keep)) ∧ R (.panic t n) h1
  | .exit _, _ => False

theorem fnH_of_awV {Γ : Nat → Option AV} {f : FuncId} {fn : Func} {c : Code} {args : List AV} {h0 : Hp} {R : AEnd → Hp → Prop} (hf : P.funcs[f]? = some fn) (hb : fn.body = some c) (hcall : ∀ (vs : Array Value) (w : World), (callFunc f vs).run P w = .ok (.enter f vs) w) (hgf : ∀ g v, Γ g = some v → v.free = true)
    (hn : args.length ≤ fn.ntmps) (h : ∀ W im μ, AW P (ctxH W im μ h0 fn.ntmps Γ) c (EndsV P fn h0 R) ⟨initFr args, h0⟩) : FnH P Γ f args h0 R := by
  refine ⟨hcall, fun W im μ vals him hglob hI hargs => ?_⟩
  refine callsIn_wide.1 (callsIn_of_wp_marks (F := Fence.wide) (n := 0) hf hb trivial ?_)
  have hinv := init_inv him hgf hglob hI hargs hn
  refine wpIn_mono (h W im μ _ _ ⟨im, μ, hinv⟩) ?_
  rintro e a w ⟨ae, s, rfl, hq, im1, μ1, hi⟩
  obtain ⟨ms, hd, hm⟩ := hi.defers
  have hlv : ∀ u, u ≠ .run → (∀ w', Shut ms w w' → LeavesInM Fence.wide 0 P fn a.tmps (fun e w' => ∃ ae h1 im' μ', R ae h1 ∧ HpStep W im μ h0 w' im' μ' h1 ∧ EndRep w' im' μ' h1 ae e) [] u w') →
      LeavesInM Fence.wide 0 P fn a.tmps (fun e w' => ∃ ae h1 im' μ', R ae h1 ∧ HpStep W im μ h0 w' im' μ' h1 ∧ EndRep w' im' μ' h1 ae e) a.defers u w := fun u hu hh => by
    rw [hd]
    exact leaves_marks hu ms w hm.nodup (fun r hr => (hm.all r hr).2.2.2.2) hh
  have hret : (∃ rs σ h1 rs', RetAll P s fn.results.toList rs ∧ Handed σ s.hp h1 ∧ rens σ rs = some rs' ∧ (∀ o ob, h0 o = some ob → σ.get o = some (o, .keep)) ∧ R (.ret rs') h1) →
      LeavesInM Fence.wide 0 P fn a.tmps (fun e w' => ∃ ae h1 im' μ', R ae h1 ∧ HpStep W im μ h0 w' im' μ' h1 ∧ EndRep w' im' μ' h1 ae e) a.defers .returning w := by
    rintro ⟨rs, σ, h1, rs', hra, hH, hrs, hpin, hR⟩
    refine hlv _ (by simp) fun w' hs => ?_
    have hi' := hi.unmark hm hs
    obtain ⟨vs, g1, g2⟩ := results_run hi' hra
    obtain ⟨hst, hS⟩ := hi'.hpStepV hH hpin
    obtain ⟨v, g3, g4⟩ := results_end (fn := fn) g1 (RepFs.ren hS _ _ _ hrs g2)
    exact ⟨v, g3, .ret rs', h1, im1, _, hR, hst, g4⟩
  cases ae with
  | normal => exact hret hq
  | ret => exact hret hq
  | exit id => exact hq.elim
  | panic t n =>
    obtain ⟨σ, h1, hH, hpin, hR⟩ := hq
    refine hlv _ (by simp) fun w' hs => ?_
    obtain ⟨hst, _⟩ := (hi.unmark hm hs).hpStepV hH hpin
    exact ⟨.panic t n, h1, im1, _, hR, hst, rfl⟩
end

/-! ### the end of a function -/

def resF (P : Program) (s : LSt) : List ResultVar → Option (List AV)
  | [] => some []
  | .tmp t :: l => bif (s.fr.get t).plain then (match resF P s l with | some r => some (s.fr.get t :: r) | none => none) else none
  | .cell t T :: l =>
    (match s.fr.get t with
    | .op o [] 0 =>
      (match hget s.hp o with
      | some (.box a) => bif tyIs P T a.asize a.isAgg then (match resF P s l with | some r => some (a :: r) | none => none) else none
      | _ => none)
    | _ => none)

theorem resF_ok {P : Program} {s : LSt} : ∀ {l : List ResultVar} {rs : List AV}, resF P s l = some rs → RetAll P s.toA l rs
  | [], rs, h => by cases h; exact .nil
  | .tmp t :: l, rs, h => by
    simp only [resF] at h
    cases hp : (s.fr.get t).plain with
    | false => rw [hp] at h; cases h
    | true =>
      rw [hp] at h
      simp only [cond_true] at h
      split at h
      · rename_i r hr; cases h; exact .tmp rfl hp (resF_ok hr)
      · cases h
  | .cell t T :: l, rs, h => by
    simp only [resF] at h
    split at h
    · rename_i o ho
      split at h
      · rename_i a ha
        cases hb : tyIs P T a.asize a.isAgg with
        | false => rw [hb] at h; cases h
        | true =>
          rw [hb] at h
          simp only [cond_true] at h
          split at h
          · rename_i r hr; cases h; exact .cell ho ha (tyIs_spec hb) (resF_ok hr)
          · cases h
      · cases h
    · cases h

def fin (base : Nat) (hp : LHp) (rs : List AV) (k : List AV → LHp → Option R) : Option R :=
  let σ := viewSg hp base (refsL rs)
  bif σ.good && pinsOK σ base then
    (match rens σ rs with
    | some rs' => (match renP hp σ σ with | some h1 => k rs' h1 | none => none)
    | none => none)
  else none

theorem fin_ok {base : Nat} {hp : LHp} {rs : List AV} {k : List AV → LHp → Option R} {r : R} (h : fin base hp rs k = some r) :
    ∃ σ h1 rs', Handed σ (hget hp) (hget h1) ∧ rens σ rs = some rs' ∧ (∀ o, o < base → σ.get o = some (o, .keep)) ∧ k rs' h1 = some r := by
  unfold fin at h
  simp only at h
  generalize viewSg hp base (refsL rs) = σ at h
  cases hb : σ.good && pinsOK σ base with
  | false => rw [hb] at h; cases h
  | true =>
    rw [hb] at h
    simp only [Bool.and_eq_true] at hb
    simp only [cond_true] at h
    split at h
    · rename_i rs' hrs
      split at h
      · rename_i h1 hr
        exact ⟨σ, h1, rs', handed_of hb.1 hr, hrs, pinsOK_spec hb.2, h⟩
      · cases h
    · cases h

def number : Nat → List AV → List (Nat × AV)
  | _, [] => []
  | i, a :: l => (i, a) :: number (i + 1) l

/-- names below a bound -/
def below (n : Nat) : LHp → Bool
  | [] => true
  | (o, _) :: r => Nat.blt o n && below n r
theorem below_spec {n : Nat} : ∀ {l : LHp}, below n l = true → ∀ o ob, hget l o = some ob → o < n
  | [], _, _, _, h => by cases h
  | (a, b) :: r, hb, o, ob, h => by
    simp only [below, Bool.and_eq_true] at hb
    simp only [hget] at h
    cases hq : Nat.beq a o with
    | true => rw [← Nat.eq_of_beq_eq_true hq]; exact Nat.le_of_ble_eq_true hb.1
    | false => rw [hq] at h; exact below_spec hb.2 o ob h

def endK (P : Program) (base : Nat) (rv : List ResultVar) : AEx → LSt → Option (AEnd × LHp)
  | .normal, s => (match resF P s rv with | some rs => fin base s.hp rs (fun rs' h1 => some (.ret rs', h1)) | none => none)
  | .ret, s => (match resF P s rv with | some rs => fin base s.hp rs (fun rs' h1 => some (.ret rs', h1)) | none => none)
  | .panic t m, s => fin base s.hp [] (fun _ h1 => some (.panic t m, h1))
  | .exit _, _ => none

/-- a body of the program, run by the executor -/
def execB (E : Env) (fn : Func) (depth : Nat) (live : List (Nat × List Nat)) (args : List AV) (hs : LHp) : Option (AEnd × LHp) :=
  match fn.body with
  | none => none
  | some c =>
    bif Nat.ble args.length fn.ntmps && below hs.length hs then
      ex E ⟨fn.ntmps, depth, hs.length, live, true⟩ c ⟨mkFr depth (number 0 args), hs, hs.length⟩ (endK E.P hs.length fn.results.toList)
    else none

def execFn (E : Env) (fn : Func) (depth : Nat) (live : List (Nat × List Nat)) : FnE :=
  { run := fun args hs k => (execB E fn depth live args hs).bind fun p => k p.1 p.2 }

theorem number_fr (d : Nat) : ∀ (l : List AV) (i x : Nat), (mkFr d (number i l)).get x = .undef ∨ ∃ j, x = i + j ∧ (mkFr d (number i l)).get x = (l[j]?).getD .undef := by
  intro l i x
  rcases mkFr_get d (number i l) x with h | ⟨a, h1, h2⟩
  · exact .inl h
  · have key : ∀ (l : List AV) (i : Nat), (x, a) ∈ number i l → ∃ j, x = i + j ∧ (l[j]?).getD .undef = a := by
      intro l
      induction l with
      | nil => intro i h; cases h
      | cons b l ih =>
        intro i h
        simp only [number, List.mem_cons, Prod.mk.injEq] at h
        rcases h with ⟨rfl, rfl⟩ | h
        · exact ⟨0, rfl, rfl⟩
        · obtain ⟨j, h1, h2⟩ := ih (i + 1) h
          exact ⟨j + 1, by omega, by simpa using h2⟩
    obtain ⟨j, h3, h4⟩ := key l i h1
    exact .inr ⟨j, h3, by rw [h2, h4]⟩

theorem le_frame {C : Ctx} {s s' : ASt} (hp : s'.hp = s.hp) (h : ∀ x, s'.fr x = .undef ∨ s'.fr x = s.fr x) : Le C s s' := by
  rintro a w ⟨im, μ, hi⟩
  refine ⟨im, μ, hi.os, hi.tape, hi.output, hi.grow, hi.old, hi.imC, hi.imNew, hi.imLt, hi.sep, hi.inj, by rw [hp]; exact hi.dom, by rw [hp]; exact hi.obj, by rw [hp]; exact hi.glob, fun x => ?_, hi.size, hi.defers, by rw [hp]; exact hi.pin⟩
  rcases h x with h | h
  · rw [h]; trivial
  · rw [h, hp]; exact hi.fr x

theorem endK_ok {P : Program} {fn : Func} {hs : LHp} {e : AEx} {s : LSt} {ae : AEnd} {hs' : LHp} (hbel : below hs.length hs = true) (h : endK P hs.length fn.results.toList e s = some (ae, hs')) :
    EndsV P fn (hget hs) (fun ae' h1 => ae' = ae ∧ h1 = hget hs') e s.toA := by
  have hret : (match resF P s fn.results.toList with | some rs => fin hs.length s.hp rs (fun rs' h1 => some (AEnd.ret rs', h1)) | none => none) = some (ae, hs') →
      ∃ rs σ h1 rs', RetAll P s.toA fn.results.toList rs ∧ Handed σ s.toA.hp h1 ∧ rens σ rs = some rs' ∧ (∀ o ob, hget hs o = some ob → σ.get o = some (o, .keep)) ∧ (AEnd.ret rs' = ae ∧ h1 = hget hs') := by
    intro h
    split at h
    · rename_i rs hrs
      obtain ⟨σ, h1, rs', g1, g2, g3, g4⟩ := fin_ok h
      cases g4
      exact ⟨rs, σ, _, rs', resF_ok hrs, g1, g2, fun o ob ho => g3 o (below_spec hbel o ob ho), rfl, rfl⟩
    · cases h
  cases e with
  | normal => exact hret h
  | ret => exact hret h
  | exit id => cases h
  | panic t m =>
    have h' : fin hs.length s.hp [] (fun _ h1 => some (AEnd.panic t m, h1)) = some (ae, hs') := h
    obtain ⟨σ, h1, rs', g1, g2, g3, g4⟩ := fin_ok h'
    cases g4
    exact ⟨σ, _, g1, fun o ob ho => g3 o (below_spec hbel o ob ho), rfl, rfl⟩

theorem aw_via {P : Program} {C : Ctx} {c : Code} {s : ASt} {Q Q' : AEx → ASt → Prop} (h : AW P C c Q' s) (k : ∀ ex s', Q' ex s' → ∃ s'', Le C s' s'' ∧ Q ex s'') : AW P C c Q s :=
  fun a w hr => wpIn_mono (h a w hr) fun e a' w' hx => by
    obtain ⟨ae, s', he, hq, hr'⟩ := hx
    obtain ⟨s'', hl, hq'⟩ := k _ _ hq
    exact ⟨ae, s'', he, hq', hl _ _ hr'⟩

theorem execFn_ok {E : Env} (hE : E.Good) (hmix : E.P.follows .mixedOrders = true) {f : FuncId} {fn : Func} {depth : Nat} {live : List (Nat × List Nat)} (hf : E.P.funcs[f]? = some fn) (hcall : ∀ (vs : Array Value) (w : World), (callFunc f vs).run E.P w = .ok (.enter f vs) w)
    (hcode : (match fn.body with | some c => codeIn fn.ntmps c | none => true) = true) (hdep : Nat.blt fn.ntmps (2 ^ depth) = true) : FnE.OK E.P E.gam f (execFn E fn depth live) := by
  refine ⟨?_, ?_⟩
  · intro R args hs k
    simp only [execFn]
    cases execB E fn depth live args hs <;> rfl
  · intro args hs ae hs' h
    simp only [execFn] at h
    obtain ⟨p, hp, h⟩ := bind_some h
    cases h
    unfold execB at hp
    cases hb : fn.body with
    | none => rw [hb] at hp; cases hp
    | some c =>
      rw [hb] at hp hcode
      simp only at hp hcode
      cases hc : Nat.ble args.length fn.ntmps && below hs.length hs with
      | false => rw [hc] at hp; cases hp
      | true =>
        rw [hc] at hp
        simp only [Bool.and_eq_true] at hc
        simp only [cond_true] at hp
        have hdep' : fn.ntmps < 2 ^ depth := Nat.le_of_ble_eq_true hdep
        refine fnH_of_awV hf hb hcall hE.gf (Nat.le_of_ble_eq_true hc.1) fun W im μ => ?_
        have hCK : CK E ⟨fn.ntmps, depth, hs.length, live, true⟩ (ctxH W im μ (hget hs) fn.ntmps E.gam) := ⟨rfl, rfl, hdep', fun o ob ho => below_spec hc.2 o ob ho, fun _ => ⟨rfl, rfl⟩⟩
        have hex := ex_ok hE hmix hCK c ⟨mkFr depth (number 0 args), hs, hs.length⟩ _ _ hcode (full_fits ⟨fn.ntmps, depth, hs.length, live, true⟩ hdep' _ _ _) hp
        refine aw_weaken (s' := (⟨mkFr depth (number 0 args), hs, hs.length⟩ : LSt).toA) (le_frame rfl fun x => ?_) (aw_via hex ?_)
        · show (mkFr depth (number 0 args)).get x = .undef ∨ (mkFr depth (number 0 args)).get x = initFr args x
          rcases number_fr depth args 0 x with h | ⟨j, h1, h2⟩
          · exact .inl h
          · exact .inr (by rw [h2, initFr_get, h1]; simp)
        · rintro e s' ⟨st, hle, _, hk⟩
          exact ⟨st.toA, hle, endK_ok hc.2 hk⟩

/-! ### environments that grow -/

def AllGood (P : Program) : List (Nat × Ty) → Prop
  | [] => True
  | p :: r => TyGood P p.1 p.2 ∧ AllGood P r
theorem allGood {P : Program} : ∀ {l : List (Nat × Ty)}, AllGood P l → ∀ p ∈ l, TyGood P p.1 p.2
  | [], _, _, h => by cases h
  | q :: r, hg, p, h => by
    rcases List.mem_cons.1 h with rfl | h
    · exact hg.1
    · exact allGood hg.2 p h
theorem gam_free {l : List (Nat × AV)} (h : (l.all fun p => p.2.free) = true) : ∀ g v, lk l g = some v → v.free = true := fun g v hv => List.all_eq_true.1 h (g, v) (lk_mem hv)

def Env.add (E : Env) (k : Nat) (g : FnE) : Env := { E with calls := (k, g) :: E.calls }
theorem Env.Good.add {E : Env} (h : E.Good) {k : Nat} {g : FnE} (hg : FnE.OK E.P E.gam k g) : (E.add k g).Good :=
  ⟨⟨h.ty⟩, h.gf, fun p hp => by
    rcases List.mem_cons.1 hp with rfl | hp
    · exact hg
    · exact h.calls p hp, h.exts, h.round⟩
def Env.addX (E : Env) (k : Nat) (g : ExtE) : Env := { E with exts := (k, g) :: E.exts }
theorem Env.Good.addX {E : Env} (h : E.Good) {k : Nat} {g : ExtE} (hg : ExtE.OK E.P k g) : (E.addX k g).Good :=
  ⟨⟨h.ty⟩, h.gf, h.calls, fun p hp => by
    rcases List.mem_cons.1 hp with rfl | hp
    · exact hg
    · exact h.exts p hp, h.round⟩

end Go.Vm
namespace Go.Vm

/-- a row that only computes -/
theorem ext_run {P : Program} {f : FuncId} {fn : Func} {row : Array Value → Sem Value} (hf : P.funcs[f]? = some fn) (hb : fn.body.isNone = true) (hn : (fn.name == "runtime.NumGoroutine") = false) (hx : Extern.findNext fn = none) (hr : Extern.find fn = some row) (vals : Array Value) (w w' : World) {v : Value}
    (h : (row vals).run P w = .ok v w') : (callFunc f vals).run P w = .ok (.value v) w' := by
  rw [run_callFunc_extern hf hn hb hx hr, h]; rfl

def xCount : ExtE := { run := fun args k => match args with
  | [.d .str l, .d (.int .u8) c] => bif 0 ≤ c && c < 256 then k (.d (.int .i64) (Lib.countByte l c.toNat.toUInt8 : Int)) else none
  | _ => none }
def xIndexByte : ExtE := { run := fun args k => match args with
  | [.d .str l, .d (.int .u8) c] => bif 0 ≤ c && c < 256 then k (.d (.int .i64) (Lib.indexByte l c.toNat.toUInt8)) else none
  | _ => none }

theorem two_vals {w : World} {im : Nat → Prop} {μ : Mu} {hp : Hp} {a b : AV} {vals : List Value} (hl : vals.length = [a, b].length) (h : ∀ (i : Nat) (x : AV) (v : Value), [a, b][i]? = some x → vals[i]? = some v → RepV w im μ hp x v) : ∃ u v, vals = [u, v] ∧ RepV w im μ hp a u ∧ RepV w im μ hp b v := by
  match vals, hl with
  | [u, v], _ => exact ⟨u, v, rfl, h 0 a u rfl rfl, h 1 b v rfl rfl⟩
theorem one_val {w : World} {im : Nat → Prop} {μ : Mu} {hp : Hp} {a : AV} {vals : List Value} (hl : vals.length = [a].length) (h : ∀ (i : Nat) (x : AV) (v : Value), [a][i]? = some x → vals[i]? = some v → RepV w im μ hp x v) : ∃ u, vals = [u] ∧ RepV w im μ hp a u := by
  match vals, hl with
  | [u], _ => exact ⟨u, rfl, h 0 a u rfl rfl⟩

theorem xCount_ok {P : Program} {f : FuncId} {fn : Func} (hf : P.funcs[f]? = some fn) (hb : fn.body.isNone = true) (hn : (fn.name == "runtime.NumGoroutine") = false) (hx : Extern.findNext fn = none) (hr : Extern.find fn = some Extern.BytealgCount.count) : ExtE.OK P f xCount := by
  refine ⟨fun args k => by
    simp only [xCount]
    split
    · rename_i l c
      cases decide (0 ≤ c) && decide (c < 256) <;> rfl
    · rfl, fun args k r h => ?_⟩
  simp only [xCount] at h
  split at h
  · rename_i l c
    cases hc : (decide (0 ≤ c) && decide (c < 256)) with
    | false => rw [hc] at h; cases h
    | true =>
      rw [hc] at h
      refine ⟨_, h, fun w im μ hp vals hl hv => ?_⟩
      obtain ⟨u, v, rfl, h1, h2⟩ := two_vals hl hv
      have e1 := scal_eq (u := .string ⟨l.toArray⟩) rfl h1
      have e2 := scal_eq (u := .int .u8 c) rfl h2
      subst e1 e2
      exact ⟨.int .i64 (Lib.countByte l c.toNat.toUInt8 : Int), w, ext_run hf hb hn hx hr _ w w (Lib.run_countString _ _ _), rfl, rfl, rfl, rfl, constAV_rep _ _ _ _ (.int .i64 _)⟩
  · cases h

theorem xIndexByte_ok {P : Program} {f : FuncId} {fn : Func} (hf : P.funcs[f]? = some fn) (hb : fn.body.isNone = true) (hn : (fn.name == "runtime.NumGoroutine") = false) (hx : Extern.findNext fn = none) (hr : Extern.find fn = some Extern.BytealgIndexByte.indexByte) : ExtE.OK P f xIndexByte := by
  refine ⟨fun args k => by
    simp only [xIndexByte]
    split
    · rename_i l c
      cases decide (0 ≤ c) && decide (c < 256) <;> rfl
    · rfl, fun args k r h => ?_⟩
  simp only [xIndexByte] at h
  split at h
  · rename_i l c
    cases hc : (decide (0 ≤ c) && decide (c < 256)) with
    | false => rw [hc] at h; cases h
    | true =>
      rw [hc] at h
      refine ⟨_, h, fun w im μ hp vals hl hv => ?_⟩
      obtain ⟨u, v, rfl, h1, h2⟩ := two_vals hl hv
      have e1 := scal_eq (u := .string ⟨l.toArray⟩) rfl h1
      have e2 := scal_eq (u := .int .u8 c) rfl h2
      subst e1 e2
      refine ⟨.int .i64 (Lib.indexByte l c.toNat.toUInt8), w, ext_run hf hb hn hx hr _ w w ?_, rfl, rfl, rfl, rfl, constAV_rep _ _ _ _ (.int .i64 _)⟩
      exact Lib.run_indexByteString _ _ _
  · cases h

end Go.Vm
namespace Go.Vm

universe u
variable {R : Type}

section
variable {P : Program} {C : Ctx}

/-- how a deferred call finds its caller, what recover gives, and how it leaves the caller -/
inductive ModeV : FrameMode → Value → FrameMode → Prop
  | calm : ModeV .returning .nilIface .returning
  | caught (v : Value) : ModeV (.panicking [{ v := v, recovered := false }]) v (.panicking [{ v := v, recovered := true }])

theorem callsD_of_aw {Γ : Nat → Option AV} {g : FuncId} {gn : Func} {id t5 t2 : Nat} {rest : Code} {ty1 ty2 : TypeId} {pos1 pos2 : String} {aft1 aft2 : Array Edge} (hgf : ∀ g v, Γ g = some v → v.free = true) (hf : P.funcs[g]? = some gn)
    (hb : gn.body = some (.seq (.region id #[⟨some t5, .call ⟨.builtin .recover, #[], #[]⟩, ty1, pos1, aft1, none⟩, ⟨some t2, .assign (.tmp t5), ty2, pos2, aft2, none⟩] false) rest))
    (hres : gn.results = #[]) (h5 : t5 < gn.ntmps) (h2 : t2 < gn.ntmps) {u u' : FrameMode} {rv : Value} (hm : ModeV u rv u') {av : AV} {caps : List AV} {h0 : Hp} {R : Hp → Prop} (hlen : caps.length ≤ gn.ntmps)
    (hrv : ∀ (w : World) (im : Nat → Prop) (μ : Mu) (hp : Hp), RepV w im μ hp av rv)
    (h : ∀ W im μ, AW P (ctxH W im μ h0 gn.ntmps Γ true) rest (fun ex s' => (ex = .normal ∨ ex = .ret) ∧ ∃ σ h1, Handed σ s'.hp h1 ∧ (∀ o ob, h0 o = some ob → σ.get o = some (o, .keep)) ∧ R h1) ⟨putF (putF (initFr caps) t5 av) t2 av, h0⟩)
    {W : World} {im : Nat → Prop} {μ : Mu} {vals : List Value} (him : ∀ b, im b → b < W.heap.size) (hglob : GlobOK Γ W im) (hI : HpInv W im μ h0) (hargs : RepFs W im μ h0 caps vals) :
    CallsD P g vals.toArray u W (fun e u'' w' => u'' = u' ∧ (∃ v, e = .returned v) ∧ ∃ h1 im' μ', R h1 ∧ HpStep W im μ h0 w' im' μ' h1) := by
  refine callsD_of_wpS hf hb (fun c₀ cs hc => ?_)
  refine wpS_seq (wpS_region ?_)
  have hus : vals.length = caps.length := repFs_length hargs
  have hinv0 := init_inv (n := gn.ntmps) him hgf hglob hI hargs hlen true
  have hinv1 := hinv0.put (w' := W) (dst := some t5) (v := rv) (av := av) rfl rfl rfl rfl (fun d hd => by cases hd; exact h5) (hrv _ _ _ _)
  have hinv2 := hinv1.put (w' := W) (dst := some t2) (v := rv) (av := av) rfl rfl rfl rfl (fun d hd => by cases hd; exact h2) (hrv _ _ _ _)
  have hrest : ∀ c₁ : Frame, c₁ = { c₀ with mode := u' } → rest.wpS P (bodyPostS P gn c₀ cs (fun e u'' w' => u'' = u' ∧ (∃ v, e = .returned v) ∧ ∃ h1 im' μ', R h1 ∧ HpStep W im μ h0 w' im' μ' h1))
      ((({ tmps := vals.toArray ++ Array.replicate (gn.ntmps - vals.toArray.size) Go.undef, defers := [] } : Act).put (some t5) rv).put (some t2) rv) (c₁ :: cs) W := by
    rintro c₁ rfl
    refine wpS_of_wp (wp_mono (wpIn_wide.1 (h W im μ _ _ ⟨im, μ, hinv2⟩)) ?_)
    rintro e a' w' ⟨ae, s', rfl, ⟨hex, σ, h1, hH, hpin, hR⟩, im', μ', hrel⟩
    obtain ⟨hst, _⟩ := hrel.hpStepV hH hpin
    have hdef : a'.defers = [] := by
      obtain ⟨ms, hd, hm⟩ := hrel.defers
      rw [hd, hm.none rfl]; rfl
    rcases hex with rfl | rfl
    · exact ⟨hdef, u', rfl, .tuple #[], by simp [results, hres], rfl, ⟨_, rfl⟩, h1, im', _, hR, hst⟩
    · exact ⟨hdef, u', rfl, .tuple #[], by simp [results, hres], rfl, ⟨_, rfl⟩, h1, im', _, hR, hst⟩
  have e0 : ∀ (ρ : Operand → Value), (execOp ρ ⟨some t5, .call ⟨.builtin .recover, #[], #[]⟩, ty1, pos1, aft1, none⟩).run P W = .ok .recover W := fun ρ => by
    simp [execOp, resolve, invoke, builtin]
  have e1 : ∀ (A : Act), (execOp (A.put (some t5) rv).eval ⟨some t2, .assign (.tmp t5), ty2, pos2, aft2, none⟩).run P W = .ok (.value ((A.put (some t5) rv).eval (.tmp t5))) W := fun A => by
    simp [execOp]
  have e2 : ((({ tmps := vals.toArray ++ Array.replicate (gn.ntmps - vals.toArray.size) Go.undef, defers := [] } : Act).put (some t5) rv).eval (.tmp t5)) = rv := by
    have hsz : t5 < vals.length + (gn.ntmps - vals.length) := by omega
    simp [Act.put, Act.eval, Array.getD_eq_getD_getElem?, hsz]
  show wpOpsS P _ _ [0, 1] _ _ _
  cases hm with
  | calm =>
    have hr : recoverD (c₀ :: cs) = none := by simp [recoverD, hc]
    simp only [wpOpsS, List.getElem?_toArray, List.getElem?_cons_zero, List.getElem?_cons_succ, Region.wanted, if_true, e0, hr, e1, e2, Oper.upon_value]
    exact hrest c₀ (by rw [← hc])
  | caught v =>
    have hr : recoverD (c₀ :: cs) = some (rv, { c₀ with mode := .panicking [{ v := rv, recovered := true }] } :: cs) := by simp [recoverD, hc]
    simp only [wpOpsS, List.getElem?_toArray, List.getElem?_cons_zero, List.getElem?_cons_succ, Region.wanted, if_true, e0, hr, e1, e2, Oper.upon_value]
    exact hrest _ rfl

end

/-! ### the executor of such a function -/

def boxAt (hp : LHp) : AV → Bool
  | .op o [] off => Nat.beq off 0 && (match hget hp o with | some (.box _) => true | _ => false)
  | _ => false

theorem repFs_boxes {hp : LHp} {w : World} {im : Nat → Prop} {μ : Mu} : ∀ {l : List AV} {us : List Value}, (l.all (boxAt hp)) = true → RepFs w im μ (hget hp) l us →
    ∀ {w' : World} {im' : Nat → Prop} {μ' : Mu} {hp' : Hp}, (∀ o ob, hget hp o = some ob → ∃ ob', hp' o = some ob' ∧ ObEv ob (μ o) ob' (μ' o)) → RepFs w' im' μ' hp' l us
  | [], us, _, h, _, _, _, _, _ => by simpa [RepFs] using h
  | a :: l, us, hb, h, w', im', μ', hp', hk => by
    simp only [List.all_cons, Bool.and_eq_true] at hb
    obtain ⟨h1, h2⟩ := hb
    simp only [RepFs] at h ⊢
    obtain ⟨v, vs, rfl, g1, g2, g3⟩ := h
    refine ⟨v, vs, rfl, ?_, g2, repFs_boxes h2 g3 hk⟩
    unfold boxAt at h1
    split at h1
    · rename_i o off
      simp only [Bool.and_eq_true] at h1
      obtain ⟨_, h1⟩ := h1
      split at h1
      · rename_i v0 hv
        simp only [RepA] at g1 ⊢
        obtain ⟨b, x, k1, k2, k3⟩ := g1
        obtain ⟨ob', m1, m2⟩ := hk o _ hv
        cases ob' with
        | arr _ _ _ _ _ => exact m2.elim
        | rc _ => exact m2.elim
        | box y =>
          have m3 : μ' o = μ o := m2
          exact ⟨b, y, m3.trans k1, m1, k3⟩
      · cases h1
    · cases h1

/-- what recover gives -/
def recV : AEx → Option AV
  | .normal | .ret => some .nilif
  | .panic t n => some (.iface t (.d (.int .i64) n))
  | .exit _ => none

structure DefC where
  g : Nat
  gn : Func
  depth : Nat
  live : List (Nat × List Nat)
  t5 : Nat
  t2 : Nat
  t15 : Nat
  caps : List Operand

/-- the deferred function, on the objects that it is handed -/
def runG (E : Env) (D : DefC) (rest : Code) (args : List AV) (av : AV) (hs : LHp) : Option LHp :=
  bif Nat.ble args.length D.gn.ntmps && below hs.length hs then
    ex E ⟨D.gn.ntmps, D.depth, hs.length, D.live, false⟩ rest ⟨((mkFr D.depth (number 0 args)).set D.t5 av).set D.t2 av, hs, hs.length⟩ fun e s =>
      match e with
      | .normal => fin hs.length s.hp [] (fun _ h1 => some h1)
      | .ret => fin hs.length s.hp [] (fun _ h1 => some h1)
      | _ => none
  else none

/-- behind the body -/
def endD (E : Env) (D : DefC) (rest : Code) (base : Nat) (rv : List ResultVar) (caps : List AV) (e : AEx) (s : LSt) : Option (AEnd × LHp) :=
  match recV e with
  | none => none
  | some av =>
    let L := reach s.hp manyFuel (refsL caps) []
    let σ := sgIn s.hp L 0
    bif σ.good then
      (match rens σ caps with
      | some args =>
        (match renP s.hp σ σ with
        | some hs =>
          (match runG E D rest args av hs with
          | some hs' =>
            let nw := sgNew L.length s.nx hs'
            let σ' := sgOut s.hp L 0 ++ nw
            bif σ'.good && freeAll s.hp nw then
              (match renP hs' σ' σ' with
              | some wr =>
                (match resF E.P ⟨s.fr, wr ++ s.hp, s.nx⟩ rv with
                | some rs => fin base (wr ++ s.hp) rs (fun rs' h1 => some (.ret rs', h1))
                | none => none)
              | none => none)
            else none
          | none => none)
        | none => none)
      | none => none)
    else none

def execD (E : Env) (fn : Func) (depth : Nat) (live : List (Nat × List Nat)) (D : DefC) (args : List AV) (hs : LHp) : Option (AEnd × LHp) :=
  match fn.body, D.gn.body with
  | some (.seq R0 (.seq _ y)), some (.seq _ rest) =>
    bif Nat.ble args.length fn.ntmps && below hs.length hs then
      ex E ⟨fn.ntmps, depth, hs.length, live, false⟩ R0 ⟨mkFr depth (number 0 args), hs, hs.length⟩ fun e0 s0 =>
        match e0 with
        | .normal =>
          let caps := evs E s0 D.caps
          bif caps.all (boxAt s0.hp) && below s0.nx s0.hp then
            ex E ⟨fn.ntmps, depth, s0.nx, live, false⟩ y (s0.set D.t15 (.fn (.func D.g) [] caps)) (endD E D rest hs.length fn.results.toList caps)
          else none
        | _ => none
    else none
  | _, _ => none

def execFnD (E : Env) (fn : Func) (depth : Nat) (live : List (Nat × List Nat)) (D : DefC) : FnE :=
  { run := fun args hs k => (execD E fn depth live D args hs).bind fun p => k p.1 p.2 }

theorem runG_ok {E : Env} (hE : E.Good) (hmix : E.P.follows .mixedOrders = true) {D : DefC} {id : Nat} {rest : Code} {ty1 ty2 : TypeId} {pos1 pos2 : String} {aft1 aft2 : Array Edge} (hf : E.P.funcs[D.g]? = some D.gn)
    (hb : D.gn.body = some (.seq (.region id #[⟨some D.t5, .call ⟨.builtin .recover, #[], #[]⟩, ty1, pos1, aft1, none⟩, ⟨some D.t2, .assign (.tmp D.t5), ty2, pos2, aft2, none⟩] false) rest))
    (hres : D.gn.results = #[]) (h5 : D.t5 < D.gn.ntmps) (h2 : D.t2 < D.gn.ntmps) (hcode : codeIn D.gn.ntmps rest = true) (hdep : Nat.blt D.gn.ntmps (2 ^ D.depth) = true) {args : List AV} {av : AV} {hs hs' : LHp} (h : runG E D rest args av hs = some hs')
    {u u' : FrameMode} {rv : Value} (hm : ModeV u rv u') (hrv : ∀ (w : World) (im : Nat → Prop) (μ : Mu) (hp : Hp), RepV w im μ hp av rv)
    {W : World} {im : Nat → Prop} {μ : Mu} {vals : List Value} (him : ∀ b, im b → b < W.heap.size) (hglob : GlobOK E.gam W im) (hI : HpInv W im μ (hget hs)) (hargs : RepFs W im μ (hget hs) args vals) :
    CallsD E.P D.g vals.toArray u W (fun e u'' w' => u'' = u' ∧ (∃ v, e = .returned v) ∧ ∃ h1 im' μ', h1 = hget hs' ∧ HpStep W im μ (hget hs) w' im' μ' h1) := by
  unfold runG at h
  cases hc : Nat.ble args.length D.gn.ntmps && below hs.length hs with
  | false => rw [hc] at h; cases h
  | true =>
    rw [hc] at h
    simp only [Bool.and_eq_true] at hc
    simp only [cond_true] at h
    have hdep' : D.gn.ntmps < 2 ^ D.depth := Nat.le_of_ble_eq_true hdep
    refine callsD_of_aw (R := fun h1 => h1 = hget hs') hE.gf hf hb hres h5 h2 hm (Nat.le_of_ble_eq_true hc.1) hrv (fun W im μ => ?_) him hglob hI hargs
    have hCK : CK E ⟨D.gn.ntmps, D.depth, hs.length, D.live, false⟩ (ctxH W im μ (hget hs) D.gn.ntmps E.gam true) := ⟨rfl, rfl, hdep', fun o ob ho => below_spec hc.2 o ob ho, (fun h => by cases h)⟩
    have f0 := full_fits ⟨D.gn.ntmps, D.depth, hs.length, D.live, false⟩ hdep' (number 0 args) hs hs.length
    have f1 := set_fits f0 D.t5 av
    have f2 := set_fits f1 D.t2 av
    have hex := ex_ok hE hmix hCK rest ⟨((mkFr D.depth (number 0 args)).set D.t5 av).set D.t2 av, hs, hs.length⟩ _ _ hcode f2 h
    refine aw_weaken (s' := (⟨((mkFr D.depth (number 0 args)).set D.t5 av).set D.t2 av, hs, hs.length⟩ : LSt).toA) (le_frame rfl fun x => ?_) (aw_via hex ?_)
    · show (((mkFr D.depth (number 0 args)).set D.t5 av).set D.t2 av).get x = .undef ∨ (((mkFr D.depth (number 0 args)).set D.t5 av).set D.t2 av).get x = putF (putF (initFr args) D.t5 av) D.t2 av x
      rw [Tr.get_set _ _ _ _ (show ((mkFr D.depth (number 0 args)).set D.t5 av).has D.t2 = true from f1 D.t2 h2)]
      simp only [putF]
      cases hx2 : Nat.beq x D.t2 with
      | true => exact .inr rfl
      | false =>
        simp only [cond_false]
        rw [Tr.get_set _ _ _ _ (show (mkFr D.depth (number 0 args)).has D.t5 = true from f0 D.t5 h5)]
        cases hx5 : Nat.beq x D.t5 with
        | true => exact .inr rfl
        | false =>
          simp only [cond_false]
          rcases number_fr D.depth args 0 x with h | ⟨j, h1, h2⟩
          · exact .inl h
          · exact .inr (by rw [h2, initFr_get, h1]; simp)
    · rintro e s' ⟨st, hle, _, hk⟩
      refine ⟨st.toA, hle, ?_⟩
      have hfin : fin hs.length st.hp [] (fun _ h1 => some h1) = some hs' → ∃ σ h1, Handed σ st.toA.hp h1 ∧ (∀ o ob, hget hs o = some ob → σ.get o = some (o, .keep)) ∧ h1 = hget hs' := fun hh => by
        obtain ⟨σ, h1, rs', g1, g2, g3, g4⟩ := fin_ok hh
        cases g4
        exact ⟨σ, _, g1, fun o ob ho => g3 o (below_spec hc.2 o ob ho), rfl⟩
      cases e with
      | normal => exact ⟨.inl rfl, hfin hk⟩
      | ret => exact ⟨.inr rfl, hfin hk⟩
      | exit i => cases hk
      | panic t n => cases hk

theorem Inv.toH {W : World} {im im' : Nat → Prop} {μ μ1 μ' : Mu} {h0 h1 : Hp} {Γ : Nat → Option AV} {ds : List Deferred} {n : Nat} {s : ASt} {a : Act} {w : World}
    (hi : Inv ⟨W, im, fun b => ∃ o, (μ o).blk = some b, n, ds, Γ, h1, μ1, none, true⟩ im' μ' s a w) (hp : ∀ o ob, h0 o = some ob → ∃ ob', h1 o = some ob' ∧ ObEv ob (μ o) ob' (μ1 o)) :
    Inv ⟨W, im, fun b => ∃ o, (μ o).blk = some b, n, ds, Γ, h0, μ, none, true⟩ im' μ' s a w :=
  ⟨hi.os, hi.tape, hi.output, hi.grow, hi.old, hi.imC, hi.imNew, hi.imLt, hi.sep, hi.inj, hi.dom, hi.obj, hi.glob, hi.fr, hi.size, (by obtain ⟨ms, h1, h2⟩ := hi.defers; exact ⟨ms, h1, h2.nodup, h2.none, h2.all⟩), fun o ob h => by
    obtain ⟨ob', g1, g2⟩ := hp o ob h
    obtain ⟨ob2, g3, g4⟩ := hi.pin o ob' g1
    exact ⟨ob2, g3, ObEv.trans g2 g4⟩⟩

theorem execFnD_ok {E : Env} (hE : E.Good) (hmix : E.P.follows .mixedOrders = true) {f : FuncId} {fn : Func} {depth : Nat} {live : List (Nat × List Nat)} {D : DefC} {R0 y rest : Code} {id1 id2 : Nat} {capOps : Array Operand} {at' : Array TypeId} {ty1 ty2 ty3 ty4 : TypeId} {pos1 pos2 pos3 pos4 : String} {aft1 aft2 aft3 aft4 : Array Edge}
    (hf : E.P.funcs[f]? = some fn) (hcall : ∀ (vs : Array Value) (w : World), (callFunc f vs).run E.P w = .ok (.enter f vs) w)
    (hb : fn.body = some (.seq R0 (.seq (.region id1 #[⟨some D.t15, .makeFunc (.func D.g) #[] capOps, ty1, pos1, aft1, none⟩, ⟨none, .defer ⟨.value (.tmp D.t15), #[], at'⟩, ty2, pos2, aft2, none⟩] false) y))) (hcap : capOps.toList = D.caps)
    (hcode : (codeIn fn.ntmps R0 && codeIn fn.ntmps y && Nat.blt D.t15 fn.ntmps) = true) (hdep : Nat.blt fn.ntmps (2 ^ depth) = true)
    (hg : E.P.funcs[D.g]? = some D.gn) (hcallg : ∀ (vs : Array Value) (w : World), (callFunc D.g vs).run E.P w = .ok (.enter D.g vs) w)
    (hgb : D.gn.body = some (.seq (.region id2 #[⟨some D.t5, .call ⟨.builtin .recover, #[], #[]⟩, ty3, pos3, aft3, none⟩, ⟨some D.t2, .assign (.tmp D.t5), ty4, pos4, aft4, none⟩] false) rest))
    (hres : D.gn.results = #[]) (h52 : (Nat.blt D.t5 D.gn.ntmps && Nat.blt D.t2 D.gn.ntmps && codeIn D.gn.ntmps rest && Nat.blt D.gn.ntmps (2 ^ D.depth)) = true) : FnE.OK E.P E.gam f (execFnD E fn depth live D) := by
  refine ⟨?_, ?_⟩
  · intro R args hs k
    simp only [execFnD]
    cases execD E fn depth live D args hs <;> rfl
  · intro args hs ae hs' h
    simp only [Bool.and_eq_true] at hcode h52
    obtain ⟨⟨c1, c2⟩, c3⟩ := hcode
    obtain ⟨⟨⟨d1, d2⟩, d3⟩, d4⟩ := h52
    have h15 : D.t15 < fn.ntmps := Nat.le_of_ble_eq_true c3
    have h5 : D.t5 < D.gn.ntmps := Nat.le_of_ble_eq_true d1
    have h2 : D.t2 < D.gn.ntmps := Nat.le_of_ble_eq_true d2
    simp only [execFnD] at h
    obtain ⟨p, hp, h⟩ := bind_some h
    cases h
    unfold execD at hp
    rw [hb, hgb] at hp
    simp only at hp
    cases hc : Nat.ble args.length fn.ntmps && below hs.length hs with
    | false => rw [hc] at hp; cases hp
    | true =>
      rw [hc] at hp
      simp only [Bool.and_eq_true] at hc
      simp only [cond_true] at hp
      have hdep' : fn.ntmps < 2 ^ depth := Nat.le_of_ble_eq_true hdep
      refine ⟨hcall, fun W im μ vals him hglob hI hargs => ?_⟩
      refine calls_of_wp_defers hf hb ?_
      have hinv := init_inv (n := fn.ntmps) him hE.gf hglob hI hargs (Nat.le_of_ble_eq_true hc.1) true
      have hCK : CK E ⟨fn.ntmps, depth, hs.length, live, false⟩ (ctxH W im μ (hget hs) fn.ntmps E.gam true) := ⟨rfl, rfl, hdep', fun o ob ho => below_spec hc.2 o ob ho, (fun h => by cases h)⟩
      have hex := ex_ok hE hmix hCK R0 ⟨mkFr depth (number 0 args), hs, hs.length⟩ _ _ c1 (full_fits ⟨fn.ntmps, depth, hs.length, live, false⟩ hdep' _ _ _) hp
      have hex := aw_weaken (s := ⟨initFr args, hget hs⟩) (s' := (⟨mkFr depth (number 0 args), hs, hs.length⟩ : LSt).toA) (le_frame rfl fun x => by
        show (mkFr depth (number 0 args)).get x = .undef ∨ (mkFr depth (number 0 args)).get x = initFr args x
        rcases number_fr depth args 0 x with h | ⟨j, h1, h2⟩
        · exact .inl h
        · exact .inr (by rw [h2, initFr_get, h1]; simp)) hex
      refine wp_seq (wp_mono (wpIn_wide.1 (hex _ _ ⟨im, _, hinv⟩)) ?_)
      rintro e a w ⟨ae0, s', rfl, ⟨st, hle, hfit, hk⟩, hr⟩
      cases ae0 with
      | exit i => cases hk
      | ret => cases hk
      | panic t n => cases hk
      | normal =>
        simp only at hk
        cases hcc : (evs E st D.caps).all (boxAt st.hp) && below st.nx st.hp with
        | false => rw [hcc] at hk; cases hk
        | true =>
          rw [hcc] at hk
          simp only [Bool.and_eq_true] at hcc
          simp only [cond_true] at hk
          obtain ⟨im1, μ1, hi⟩ := hle _ _ hr
          have hdef0 : a.defers = [] := by
            obtain ⟨ms, hd, hm⟩ := hi.defers
            rw [hd, hm.none rfl]; rfl
          show (Code.seq _ _).wp E.P _ a w
          refine wp_seq (wp_region ?_)
          show wpOps E.P _ _ [0, 1] a w
          have hus : RepFs w im1 μ1 (hget st.hp) (evs E st D.caps) (capOps.toList.map a.eval) := by
            have hlen : ∀ l : List Operand, (∀ x ∈ l, boxAt st.hp (st.ev E x) = true) → RepFs w im1 μ1 (hget st.hp) (evs E st l) (l.map a.eval) := by
              intro l
              induction l with
              | nil => intro _; simp [evs, RepFs]
              | cons x l ih =>
                intro hx
                simp only [evs, List.map_cons, RepFs]
                have hb1 := hx x (by simp)
                have hev := hi.ev x
                rw [ev_eq (C := ctxH W im μ (hget hs) fn.ntmps E.gam true) rfl] at hev
                have hpl : (st.ev E x).plain = true := by
                  unfold boxAt at hb1
                  split at hb1
                  · rename_i hq; rw [hq]; rfl
                  · cases hb1
                obtain ⟨k1, k2⟩ := hev.toA hpl
                exact ⟨_, _, rfl, k1, k2, ih (fun x hx' => hx x (by simp [hx']))⟩
            rw [hcap]
            refine hlen _ (fun x hx => ?_)
            have := hcc.1
            have hm : ∀ l : List Operand, x ∈ l → ((evs E st l).all (boxAt st.hp)) = true → boxAt st.hp (st.ev E x) = true := by
              intro l
              induction l with
              | nil => intro h; cases h
              | cons z l ih =>
                intro h ha
                simp only [evs, List.all_cons, Bool.and_eq_true] at ha
                rcases List.mem_cons.1 h with rfl | h
                · exact ha.1
                · exact ih h ha.2
            exact hm _ hx this
          have e0 : (execOp a.eval ⟨some D.t15, .makeFunc (.func D.g) #[] capOps, ty1, pos1, aft1, none⟩).run E.P w = .ok (.value (.func (.func D.g) #[] (capOps.map a.eval))) w := by
            simp [execOp, Instr.makeFunc]
          have hv15 : (a.put (some D.t15) (.func (.func D.g) #[] (capOps.map a.eval))).eval (.tmp D.t15) = .func (.func D.g) #[] (capOps.map a.eval) := by
            have hsz : D.t15 < a.tmps.size := by rw [hi.size]; exact h15
            simp [Act.put, Act.eval, Array.getD_eq_getD_getElem?, hsz]
          have e1 : (execOp (a.put (some D.t15) (.func (.func D.g) #[] (capOps.map a.eval))).eval ⟨none, .defer ⟨.value (.tmp D.t15), #[], at'⟩, ty2, pos2, aft2, none⟩).run E.P w = .ok (.defer ⟨.fn (.func D.g) (capOps.map a.eval), #[]⟩) w := by
            simp [execOp, resolve, hv15, Deferred.ofValue]
          simp only [wpOps, List.getElem?_toArray, List.getElem?_cons_zero, List.getElem?_cons_succ, Region.wanted, if_true]
          refine .inl ?_
          unfold Oper.wp
          rw [e0, Oper.upon_value]
          refine .inl ?_
          rw [e1, Oper.upon_defer]
          have hp15 : RepV w im1 μ1 (hget st.hp) (.fn (.func D.g) [] (evs E st D.caps)) (.func (.func D.g) #[] (capOps.map a.eval)) := by
            refine ⟨?_, rfl⟩
            simp only [RepA, RepFs, Value.cells]
            exact ⟨[], capOps.toList.map a.eval, by congr 2; apply Array.ext'; simp, rfl, hus⟩
          have hi1 := hi.put (w' := w) (dst := some D.t15) rfl rfl rfl rfl (fun d hd => by cases hd; exact h15) hp15
          have hi2 : Inv ⟨W, im, fun b => ∃ o, (μ o).blk = some b, fn.ntmps, [⟨.fn (.func D.g) (capOps.map a.eval), #[]⟩], E.gam, hget st.hp, μ1, none, true⟩ im1 μ1 (st.set D.t15 (.fn (.func D.g) [] (evs E st D.caps))).toA
              ({ (a.put (some D.t15) (.func (.func D.g) #[] (capOps.map a.eval))) with defers := ⟨.fn (.func D.g) (capOps.map a.eval), #[]⟩ :: (a.put (some D.t15) (.func (.func D.g) #[] (capOps.map a.eval))).defers }.put none Go.undef) w := by
            refine ⟨hi1.os, hi1.tape, hi1.output, hi1.grow, hi1.old, hi1.imC, hi1.imNew, hi1.imLt, hi1.sep, hi1.inj, hi1.dom, hi1.obj, hi1.glob, ?_, hi1.size, ⟨[], by simp only [Act.put]; rw [hdef0]; rfl, List.nodup_nil, fun _ => rfl, fun r hr => by cases hr⟩, fun o ob h => ⟨ob, h, ObEv.refl _ _⟩⟩
            intro x
            have := hi1.fr x
            show RepV w im1 μ1 (hget st.hp) ((st.set D.t15 (.fn (.func D.g) [] (evs E st D.caps))).fr.get x) _
            have hse : (st.set D.t15 (.fn (.func D.g) [] (evs E st D.caps))).fr.get x = ((st.toA.put (some D.t15) (.fn (.func D.g) [] (evs E st D.caps))).fr) x := by
              simp only [LSt.set, ASt.put, putF, LSt.toA]
              rw [Tr.get_set _ _ _ _ (hfit D.t15 h15)]
            rw [hse]; exact this
          have hCK2 : CK E ⟨fn.ntmps, depth, st.nx, live, false⟩ ⟨W, im, fun b => ∃ o, (μ o).blk = some b, fn.ntmps, [⟨.fn (.func D.g) (capOps.map a.eval), #[]⟩], E.gam, hget st.hp, μ1, none, true⟩ := ⟨rfl, rfl, hdep', fun o ob ho => below_spec hcc.2 o ob ho, (fun h => by cases h)⟩
          have hex2 := ex_ok hE hmix hCK2 y _ _ _ c2 (set_fits hfit _ _) hk
          refine wp_mono (wpIn_wide.1 (hex2 _ _ ⟨im1, μ1, hi2⟩)) ?_
          rintro e3 a3 w3 ⟨ae3, s3, rfl, ⟨S, hle3, hfit3, hk3⟩, hr3⟩
          obtain ⟨im3, μ3, hi3⟩ := hle3 _ _ hr3
          have hfinal : ∀ (u : FrameMode) (rv : Value) (u' : FrameMode) (av : AV), ModeV u rv u' → settle u' = .returning → recV ae3 = some av → (∀ (w : World) (im : Nat → Prop) (μ : Mu) (hp : Hp), RepV w im μ hp av rv) →
              Leaves E.P fn a3.tmps (fun e w' => ∃ ae' h1 im' μ', (ae' = p.1 ∧ h1 = hget p.2) ∧ HpStep W im μ (hget hs) w' im' μ' h1 ∧ EndRep w' im' μ' h1 ae' e) a3.defers u w3 := by
            intro u rv u' av hm hset hav hrv
            have hdef3 : a3.defers = [⟨.fn (.func D.g) (capOps.map a.eval), #[]⟩] := by
              obtain ⟨ms, hd, hm⟩ := hi3.defers
              rw [hd, hm.none rfl]; rfl
            rw [hdef3]
            refine ⟨by cases hm <;> simp, .func D.g, capOps.map a.eval, D.g, capOps.map a.eval, rfl, ?_, ?_⟩
            · show (callFunc D.g (#[] ++ capOps.map a.eval)).run E.P w3 = _
              rw [Array.empty_append]; exact hcallg _ _
            · have hus3 : RepFs w3 im3 μ3 (hget S.hp) (evs E st D.caps) (capOps.toList.map a.eval) := repFs_boxes hcc.1 hus (fun o ob ho => hi3.pin o ob ho)
              unfold endD at hk3
              rw [hav] at hk3
              simp only at hk3
              generalize hL : reach S.hp manyFuel (refsL (evs E st D.caps)) [] = L at hk3
              cases hgood : (sgIn S.hp L 0).good with
              | false => rw [hgood] at hk3; cases hk3
              | true =>
                rw [hgood] at hk3
                simp only [cond_true] at hk3
                split at hk3
                · rename_i args' hargs'
                  split at hk3
                  · rename_i hsG hhsG
                    split at hk3
                    · rename_i hsG' hrunG
                      cases hgd : (sgOut S.hp L 0 ++ sgNew L.length S.nx hsG' : Sg).good && freeAll S.hp (sgNew L.length S.nx hsG') with
                      | false => rw [hgd] at hk3; cases hk3
                      | true =>
                        rw [hgd] at hk3
                        simp only [Bool.and_eq_true] at hgd
                        simp only [cond_true] at hk3
                        split at hk3
                        · rename_i wr hwr
                          split at hk3
                          · rename_i rs hrs
                            obtain ⟨σf, hf1, rsf, g1, g2, g3, g4⟩ := fin_ok hk3
                            cases g4
                            have hH := handed_of hgood hhsG
                            have hB := back_of hgd.1 hgd.2 hwr
                            obtain ⟨hI3, hS3⟩ := hH.inv (fun o b h => ⟨(hi3.sep o b h).1, (hi3.sep o b h).2.1⟩) hi3.inj hi3.obj
                            have hargs3 := RepFs.ren hS3 _ _ _ hargs' hus3
                            have hglob3 : GlobOK E.gam w3 im3 := fun g v h => by
                              obtain ⟨h1, h2⟩ := (hi3.glob g v h).toA (free_plain (hE.gf g v h))
                              exact RepV.ofA (RepA.free _ _ (hE.gf g v h) h1) h2
                            have hcd := runG_ok hE hmix hg hgb hres h5 h2 d3 d4 hrunG hm hrv hi3.imLt hglob3 hI3 hargs3
                            rw [show (capOps.toList.map a.eval).toArray = capOps.map a.eval by apply Array.ext'; simp] at hcd
                            intro c cs hcm
                            obtain ⟨e, u'', w4, fr, ⟨rfl, ⟨v, rfl⟩, h1, im4, μ4, rfl, hst4⟩, hcomes, hkind, hgoing⟩ := hcd c cs hcm
                            refine ⟨.returned v, u'', w4, fr, ?_, hcomes, hkind, hgoing⟩
                            show Leaves E.P fn a3.tmps _ [] (settle u'') w4
                            rw [hset]
                            have hback := hi3.back (dst := none) hH hB hst4 (fun d hd => by cases hd) (av := .undef) (v := Go.undef) trivial
                            have hbk := hback.toH (h0 := hget hs) (μ := μ) (fun o ob h => hi.pin o ob h)
                            have hra := resF_ok hrs
                            have hst : (⟨S.fr, wr ++ S.hp, S.nx⟩ : LSt).toA = ⟨(S.toA.put none .undef).fr, hpSet S.toA.hp wr⟩ := by
                              unfold LSt.toA ASt.put
                              simp only
                              congr 1
                              exact hget_append _ _
                            rw [hst] at hra
                            obtain ⟨vs, q1, q2⟩ := results_run hbk hra
                            have hH2 : Handed σf (hpSet S.toA.hp wr) (hget hf1) := by
                              have := g1
                              rw [hget_append] at this
                              exact this
                            obtain ⟨hstf, hSf⟩ := hbk.hpStepV hH2 (fun o ob ho => g3 o (below_spec hc.2 o ob ho))
                            obtain ⟨v', q3, q4⟩ := results_end (fn := fn) q1 (RepFs.ren hSf _ _ _ g2 q2)
                            exact ⟨v', q3, .ret rsf, _, im4, _, ⟨rfl, rfl⟩, hstf, q4⟩
                          · cases hk3
                        · cases hk3
                    · cases hk3
                  · cases hk3
                · cases hk3
          cases ae3 with
          | exit i => cases hk3
          | normal => exact hfinal _ _ _ .nilif .calm rfl rfl (fun w im μ hp => constAV_rep _ _ _ _ .nilIface)
          | ret => exact hfinal _ _ _ .nilif .calm rfl rfl (fun w im μ hp => constAV_rep _ _ _ _ .nilIface)
          | panic t n => exact hfinal _ _ _ (.iface t (.d (.int .i64) n)) (.caught _) rfl rfl (fun w im μ hp => ⟨by simp only [RepA, RepD, Value.cells]; exact ⟨_, rfl, rfl, rfl⟩, rfl⟩)

end Go.Vm
namespace Go.Vm

theorem hpStep_refl {W : World} {im : Nat → Prop} {μ : Mu} {h0 : Hp} (him : ∀ b, im b → b < W.heap.size) (hI : HpInv W im μ h0) : HpStep W im μ h0 W im μ h0 :=
  ⟨rfl, rfl, rfl, Nat.le_refl _, fun _ _ _ => rfl, fun _ h => h, fun _ h => .inl h, him, fun o b h => .inl ⟨o, h⟩, fun o ob h => ⟨ob, h, ObEv.refl _ _⟩, hI⟩

theorem hpStep_alloc {W : World} {im : Nat → Prop} {μ : Mu} {h0 : Hp} (him : ∀ b, im b → b < W.heap.size) (hI : HpInv W im μ h0) (x : Obj) : HpStep W im μ h0 (W.alloc x) im μ h0 := by
  have hb : ∀ b, b < W.heap.size → (W.alloc x).heap[b]? = W.heap[b]? := fun b h => heap_alloc_old W _ h
  have ev : Ev W im μ h0 (W.alloc x) im μ h0 := ⟨fun _ h => h, fun b h => hb b (him b h), fun o ob h => ⟨ob, h, ObEv.refl _ _⟩⟩
  refine ⟨rfl, rfl, rfl, by simp, fun b h _ => hb b h, fun _ h => h, fun _ h => .inl h, fun b h => Nat.lt_of_lt_of_le (him b h) (by simp), fun o b h => .inl ⟨o, h⟩, fun o ob h => ⟨ob, h, ObEv.refl _ _⟩, ⟨fun o b h => ⟨(hI.sep o b h).1, Nat.lt_of_lt_of_le (hI.sep o b h).2 (by simp)⟩, hI.inj, hI.dom, fun o ob h => (hI.obj o ob h).ev ev (fun b hb' => hb b (hI.sep o b hb').2)⟩⟩

/-- an empty slice's copy is an empty slice, nil or not -/
def cloneE (base : FnE) : FnE :=
  { run := fun args hs k =>
      match args with
      | [.d (.slice e) xs] => (match xs with | [] => k (.ret [.emp]) hs | x :: l => base.run [.d (.slice e) (x :: l)] hs k)
      | [.os o n] =>
        (match hget hs o with
        | some (.arr _ e m _ xs) => (match xs with | [] => bif Nat.beq n m then k (.ret [.d (.slice e) []]) hs else none | _ :: _ => base.run [.os o n] hs k)
        | _ => none)
      | [.emp] => k (.ret [.emp]) hs
      | l => base.run l hs k }

theorem cloneE_ok {P : Program} {Γ : Nat → Option AV} {f : FuncId} {base : FnE} (hb : FnE.OK P Γ f base) (hcall : ∀ (vs : Array Value) (w : World), (callFunc f vs).run P w = .ok (.enter f vs) w)
    (hnil : ∀ (w : World) (c : Nat), Calls P f #[.slice none 0 c] w fun e w' => e = .returned (.slice none 0 0) ∧ w' = w)
    (hemp : ∀ (w : World) (a : Addr) (c : Nat), Calls P f #[.slice (some a) 0 c] w fun e w' => (∃ b, e = .returned (.slice b 0 0)) ∧ ∃ o, w' = w.alloc o) : FnE.OK P Γ f (cloneE base) := by
  have key : ∀ {e : Ty} (av : AV) (hs : LHp), Src (hget hs) av e [] → FnH P Γ f [av] (hget hs) (fun ae' h1 => ae' = .ret [.d (.slice e) []] ∧ h1 = hget hs) := by
    intro e av hs hsrc
    refine ⟨hcall, fun W im μ vals him hglob hI hargs => ?_⟩
    simp only [RepFs] at hargs
    obtain ⟨v, us, rfl, h1, h2, rfl⟩ := hargs
    have hav : RepV W im μ (hget hs) av v := RepV.ofA h1 h2
    obtain ⟨ad, cap, rfl, _, _⟩ := hsrc.sound hav hI.obj
    have hend : ∀ (b : Option Addr) (w' : World) (im' : Nat → Prop), EndRep w' im' μ (hget hs) (.ret [.d (.slice e) []]) (.returned (.slice b 0 0)) := fun b w' im' => by
      refine ⟨_, rfl, ?_, rfl⟩
      simp only [RepA, RepD, Value.cells]
      refine ⟨b, 0, rfl, Nat.le_refl _, Nat.zero_le _, fun _ => rfl, ?_⟩
      cases b with
      | none => rfl
      | some a => exact .inl rfl
    cases ad with
    | none =>
      refine Calls.mono (hnil W cap) ?_
      rintro e' w' ⟨rfl, rfl⟩
      exact ⟨_, _, im, μ, ⟨rfl, rfl⟩, hpStep_refl him hI, hend none _ _⟩
    | some a =>
      refine Calls.mono (hemp W a cap) ?_
      rintro e' w' ⟨⟨b, rfl⟩, o, rfl⟩
      exact ⟨_, _, im, μ, ⟨rfl, rfl⟩, hpStep_alloc him hI o, hend b _ _⟩
  have key2 : ∀ {e : Ty} (av : AV) (hs : LHp), Src (hget hs) av e [] → FnH P Γ f [av] (hget hs) (fun ae' h1 => ae' = .ret [.emp] ∧ h1 = hget hs) := by
    intro e av hs hsrc
    refine ⟨hcall, fun W im μ vals him hglob hI hargs => ?_⟩
    simp only [RepFs] at hargs
    obtain ⟨v, us, rfl, h1, h2, rfl⟩ := hargs
    have hav : RepV W im μ (hget hs) av v := RepV.ofA h1 h2
    obtain ⟨ad, cap, rfl, _, _⟩ := hsrc.sound hav hI.obj
    have hend : ∀ (b : Option Addr) (w' : World) (im' : Nat → Prop), EndRep w' im' μ (hget hs) (.ret [.emp]) (.returned (.slice b 0 0)) := fun b w' im' => by
      refine ⟨_, rfl, ?_, rfl⟩
      simp only [RepA, Value.cells]
      exact ⟨b, rfl⟩
    cases ad with
    | none =>
      refine Calls.mono (hnil W cap) ?_
      rintro e' w' ⟨rfl, rfl⟩
      exact ⟨_, _, im, μ, ⟨rfl, rfl⟩, hpStep_refl him hI, hend none _ _⟩
    | some a =>
      refine Calls.mono (hemp W a cap) ?_
      rintro e' w' ⟨⟨b, rfl⟩, o, rfl⟩
      exact ⟨_, _, im, μ, ⟨rfl, rfl⟩, hpStep_alloc him hI o, hend b _ _⟩
  refine ⟨?_, ?_⟩
  · intro R args hs k
    simp only [cloneE, Bool.cond_eq_ite]
    repeat' (first | rfl | exact hb.eq _ _ _ | split)
  · intro args hs ae hs' h
    simp only [cloneE] at h
    split at h
    · split at h
      · cases h; exact key2 _ _ .d
      · exact hb.ok _ _ _ _ h
    · rename_i o n
      split at h
      · rename_i T e m z xs ho
        split at h
        · cases hq : Nat.beq n m with
          | false => rw [hq] at h; cases h
          | true =>
            rw [hq] at h
            cases h
            have := Nat.eq_of_beq_eq_true hq
            subst this
            exact key _ _ (.os ho)
        · exact hb.ok _ _ _ _ h
      · cases h
    · cases h; exact key2 (e := .unit) _ _ .emp
    · exact hb.ok _ _ _ _ h

end Go.Vm
namespace Go.Vm

def setL : LSt → List Tmp → List AV → LSt
  | s, t :: ts, a :: as => setL (s.set t a) ts as
  | s, _, _ => s

theorem setL_fr {n : Nat} : ∀ (ts : List Tmp) (as : List AV) (s : LSt), s.fits n → (∀ t ∈ ts, t < n) → (setL s ts as).fits n ∧ (setL s ts as).hp = s.hp ∧ (setL s ts as).nx = s.nx ∧ ∀ x, (setL s ts as).fr.get x = setPs s.fr.get ts as x
  | [], as, s, hf, _ => by cases as <;> exact ⟨hf, rfl, rfl, fun _ => rfl⟩
  | t :: ts, [], s, hf, _ => ⟨hf, rfl, rfl, fun _ => rfl⟩
  | t :: ts, a :: as, s, hf, ht => by
    obtain ⟨h1, h2, h3, h4⟩ := setL_fr ts as (s.set t a) (set_fits hf _ _) (fun t' ht' => ht t' (by simp [ht']))
    refine ⟨h1, h2, h3, fun x => ?_⟩
    have e : (s.set t a).fr.get = putF s.fr.get t a := by
      funext y
      simp only [LSt.set, putF]
      rw [Tr.get_set _ _ _ _ (hf t (ht t (by simp)))]
    show (setL (s.set t a) ts as).fr.get x = setPs (putF s.fr.get t a) ts as x
    rw [h4 x, e]

def endR (base o : Nat) (e : AEx) (s2 : LSt) : Option (Bool × LHp) :=
  match jmpOf e with
  | some j =>
    (match hget s2.hp o with
    | some (.rc (.loop lc2 fr2 .busy)) => fin base ((o, .rc (.loop lc2 fr2 (staOf j))) :: s2.hp) [] (fun _ h1 => some (j.isNone, h1))
    | _ => none)
  | none => none

def runR (E : Env) (live : List (Nat × List Nat)) (o : Nat) (args : List AV) (hs : LHp) : Option (Bool × LHp) :=
  match hget hs o with
  | some (.rc (.loop lc fr .ready)) =>
    bif below hs.length hs && Nat.beq lc.ps.size args.length && (lc.ps.toList.all (fun t => Nat.blt t lc.n)) && codeIn lc.n lc.assign && codeIn lc.n lc.body && Nat.blt lc.n (2 ^ lc.key) then
      ex E ⟨lc.n, lc.key, hs.length, live, false⟩ lc.assign (setL ⟨mkFr lc.key fr, hs, hs.length⟩ lc.ps.toList args) fun e s1 =>
        match e with
        | .normal =>
          (match hget s1.hp o with
          | some (.rc (.loop lc1 fr1 .ready)) => ex E ⟨lc.n, lc.key, hs.length, live, false⟩ lc.body ⟨s1.fr, (o, .rc (.loop lc1 fr1 .busy)) :: s1.hp, s1.nx⟩ (endR hs.length o)
          | _ => none)
        | _ => none
    else none
  | _ => none

def roundE (E : Env) (live : List (Nat × List Nat)) : RoundE := { run := fun o args hs k => (runR E live o args hs).bind fun p => k p.1 p.2 }

theorem roundE_ok {E : Env} (hE : E.Good) (hmix : E.P.follows .mixedOrders = true) (live : List (Nat × List Nat)) : RoundE.OK E.P E.gam (roundE E live) := by
  refine ⟨?_, ?_⟩
  · intro R o args hs k
    simp only [roundE]
    cases runR E live o args hs <;> rfl
  · intro o args hs c hs' h
    simp only [roundE] at h
    obtain ⟨p, hp, h⟩ := bind_some h
    cases h
    unfold runR at hp
    split at hp
    · rename_i lc fr ho
      cases hc : below hs.length hs && Nat.beq lc.ps.size args.length && (lc.ps.toList.all (fun t => Nat.blt t lc.n)) && codeIn lc.n lc.assign && codeIn lc.n lc.body && Nat.blt lc.n (2 ^ lc.key) with
      | false => rw [hc] at hp; cases hp
      | true =>
        rw [hc] at hp
        simp only [Bool.and_eq_true] at hc
        obtain ⟨⟨⟨⟨⟨hbel, hlen⟩, hps⟩, hca⟩, hcb⟩, hdep⟩ := hc
        simp only [cond_true] at hp
        have hdep' : lc.n < 2 ^ lc.key := Nat.le_of_ble_eq_true hdep
        have hps' : ∀ t ∈ lc.ps.toList, t < lc.n := fun t ht => Nat.le_of_ble_eq_true (List.all_eq_true.1 hps t ht)
        obtain ⟨hf0, hh0, hn0, hfr0⟩ := setL_fr (n := lc.n) lc.ps.toList args ⟨mkFr lc.key fr, hs, hs.length⟩ (full_fits ⟨lc.n, lc.key, hs.length, live, false⟩ hdep' fr hs hs.length) hps'
        refine roundH_of_aw (f := (mkFr lc.key fr).get) hE.gf ho (fun x => mkFr_get lc.key fr x) (Nat.eq_of_beq_eq_true hlen) hps' fun W im μ l => ?_
        have hCK : CK E ⟨lc.n, lc.key, hs.length, live, false⟩ (ctxR W im μ (hget hs) lc.n E.gam l) := ⟨rfl, rfl, hdep', fun o ob ho => below_spec hbel o ob ho, (fun h => by cases h)⟩
        have hex := ex_ok hE hmix hCK lc.assign _ _ _ hca hf0 hp
        have e0 : (setL ⟨mkFr lc.key fr, hs, hs.length⟩ lc.ps.toList args : LSt).toA = ⟨setPs (mkFr lc.key fr).get lc.ps.toList args, hget hs⟩ := by
          unfold LSt.toA
          rw [hh0]
          congr 1
          funext x
          exact hfr0 x
        rw [e0] at hex
        refine aw_via hex ?_
        rintro e s' ⟨st, hle, hfit, hk⟩
        cases e with
        | exit i => cases hk
        | ret => cases hk
        | panic t n => cases hk
        | normal =>
          simp only at hk
          split at hk
          · rename_i lc1 fr1 ho1
            refine ⟨st.toA, hle, rfl, lc1, fr1, ho1, ?_⟩
            have hex2 := ex_ok hE hmix hCK lc.body _ _ _ hcb (show (⟨st.fr, (o, AObj.rc (.loop lc1 fr1 .busy)) :: st.hp, st.nx⟩ : LSt).fits lc.n from hfit) hk
            have e1 : (⟨st.fr, (o, AObj.rc (.loop lc1 fr1 .busy)) :: st.hp, st.nx⟩ : LSt).toA = ⟨st.toA.fr, hpSet st.toA.hp [(o, .rc (.loop lc1 fr1 .busy))]⟩ := by
              unfold LSt.toA
              simp only
              congr 1
              exact hget_append [_] st.hp
            rw [e1] at hex2
            refine aw_via hex2 ?_
            rintro e2 s2 ⟨st2, hle2, _, hk2⟩
            refine ⟨st2.toA, hle2, ?_⟩
            unfold endR at hk2
            split at hk2
            · rename_i j hj
              split at hk2
              · rename_i lc2 fr2 ho2
                obtain ⟨σ, h1, rs', g1, g2, g3, g4⟩ := fin_ok hk2
                cases g4
                refine ⟨j, lc2, fr2, σ, _, hj, ho2, ?_, fun o ob ho => g3 o (below_spec hbel o ob ho), rfl, rfl⟩
                have : hget ((o, AObj.rc (.loop lc2 fr2 (staOf j))) :: st2.hp) = hpSet st2.toA.hp [(o, .rc (.loop lc2 fr2 (staOf j)))] := hget_append [_] st2.hp
                rw [← this]; exact g1
              · cases hk2
            · cases hk2
          · cases hk
    · cases hp

def Env.withRound (E : Env) (g : RoundE) : Env := { E with round := some g }
theorem Env.Good.withRound {E : Env} (h : E.Good) {g : RoundE} (hg : RoundE.OK E.P E.gam g) : (E.withRound g).Good :=
  ⟨⟨h.ty⟩, h.gf, h.calls, h.exts, fun g' hg' => by cases hg'; exact hg⟩

end Go.Vm
namespace Go.Vm
open Go.ChangeShapes Go.WideShapes

/-- what is kept -/
structure Kept (W w' : World) : Prop where
  os : w'.os = W.os
  output : w'.output = W.output
  grow : W.heap.size ≤ w'.heap.size
  old : ∀ b, b < W.heap.size → w'.heap[b]? = W.heap[b]?

theorem Kept.frame {W w' : World} (h : Kept W w') (may : MemPlace → Prop) : W.keptBut w' may := by
  refine ⟨h.os, h.output, fun i hi => ?_⟩
  rw [h.old i hi]
  split <;> simp_all

theorem Kept.frozen {W w' : World} (h : Kept W w') {a : Addr} (ha : a.block < W.heap.size) : w'.frozen? a = W.frozen? a := by
  unfold World.frozen?
  rw [h.old _ ha]

theorem Kept.cell {W w' : World} (h : Kept W w') {a : Addr} (ha : a.block < W.heap.size) : w'.cell? a = W.cell? a :=
  World.cell?_of_block (h.old _ ha)

theorem FnH.mono {P : Program} {Γ : Nat → Option AV} {f : FuncId} {args : List AV} {h0 : Hp} {R R' : AEnd → Hp → Prop} (h : FnH P Γ f args h0 R) (hr : ∀ ae h1, R ae h1 → R' ae h1) : FnH P Γ f args h0 R' :=
  ⟨h.1, fun W im μ vals a b c d => Calls.mono (h.2 W im μ vals a b c d) fun _ _ ⟨ae, h1, im', μ', k, s⟩ => ⟨ae, h1, im', μ', hr _ _ k, s⟩⟩

/-- a function that answers true -/
theorem calls_true {P : Program} {Γ : Nat → Option AV} {f : FuncId} {args : List AV} (h : FnH P Γ f args (hget []) fun ae _ => ae = .ret [.d .bool true])
    {W : World} {im : Nat → Prop} {vals : List Value} (him : ∀ b, im b → b < W.heap.size) (hg : GlobOK Γ W im) (ha : RepFs W im (fun _ => .none) (hget []) args vals) :
    Calls P f vals.toArray W fun e w' => e = .returned (.bool true) ∧ Kept W w' := by
  have hI : HpInv W im (fun _ => .none) (hget []) := ⟨fun _ _ h => (by cases h), fun _ _ _ h => (by cases h), fun _ _ => rfl, fun _ _ h => (by cases h)⟩
  refine Calls.mono (h.2 W im (fun _ => .none) vals him hg hI ha) ?_
  rintro e w' ⟨ae, h1, im', μ', rfl, hs, he⟩
  obtain ⟨v, rfl, h2, h3⟩ := he
  refine ⟨?_, hs.os, hs.output, hs.grow, fun b hb => hs.old b hb (fun o ho => by cases ho)⟩
  have h2' : v.cells.toList = [.bool true] := h2
  have h3' : vIsAgg v = false := h3
  cases v <;> simp_all [Value.cells, vIsAgg]

/-! ### strings that a global holds -/

def strData {H : Type} (xs : List (List UInt8)) : DataW H := .agg (xs.map fun x => .lit (.string x))

theorem cells_of_strs {H : Type} {enc : TypeId × Value → H} {P : Program} {w : World} {base : Nat} {sp : Nat → Bool} {held : Bool} {fuel : Nat} {t e : TypeId} {n : Nat} {cs : List Value} {zs : List (List UInt8)} {p : List MemPlace}
    (ht : P.underlying t = some (.array n e)) (he : P.underlying e = some .string) (hce : P.cellsOf e = 1) (hct : P.cellsOf t = n)
    (h : DataW.trod enc P w base sp held fuel t cs = some (strData zs, p)) : zs.length = n ∧ cs = zs.map fun z => Value.string ⟨z.toArray⟩ := by
  cases fuel with
  | zero => simp [DataW.trod] at h
  | succ fuel =>
    simp only [DataW.trod, ht, hce, hct, Nat.mul_one] at h
    split at h
    · rename_i hl
      obtain ⟨xs, hm, hx⟩ := Option.map_eq_some_iff.1 h
      have hxs : xs.map (·.1) = zs.map fun z => (DataW.lit (.string z) : DataW H) := by
        have := congrArg Prod.fst hx
        simpa [strData] using this
      have hxl : xs.length = n := by simpa using Lib.mapM_length hm
      have hzl : zs.length = n := by
        have := congrArg List.length hxs
        simp at this
        omega
      refine ⟨hzl, ?_⟩
      apply List.ext_getElem?
      intro i
      by_cases hi : i < n
      · obtain ⟨b, hb, hf⟩ := Lib.mapM_at hm i i (by simp [hi])
        obtain ⟨z, hc, rfl, _⟩ := DataW.trod_string he hf
        have h1 : cs[i]? = some (.string z) := by
          have := congrArg (·[0]?) hc
          simpa [List.getElem?_take, List.getElem?_drop] using this
        have h2 : (xs.map (·.1))[i]? = some (DataW.lit (.string z.data.toList) : DataW H) := by simp [hb]
        rw [hxs] at h2
        simp only [List.getElem?_map, Option.map_eq_some_iff, DataW.lit.injEq, Lit.string.injEq] at h2
        obtain ⟨z', hz', rfl⟩ := h2
        simp [h1, hz']
      · rw [List.getElem?_eq_none (by omega), List.getElem?_eq_none (by simp; omega)]
    · cases h

theorem strs_rep {w : World} {im : Nat → Prop} : ∀ zs : List (List UInt8), RepL (RepD w im .str) (zs.map fun z => Value.string ⟨z.toArray⟩) zs
  | [] => rfl
  | z :: zs => ⟨[.string ⟨z.toArray⟩], _, rfl, rfl, strs_rep zs⟩

theorem laidVars_tail {P : Program} {w : World} {x : String × DataW Unit} {l : List (String × DataW Unit)} {ps : List MemPlace} (h : DataW.LaidVars P w (x :: l) ps) : ∃ q, DataW.LaidVars P w l q := by
  obtain ⟨_, _, _, _, _, q, _, _, _, _, h, _⟩ := h
  exact ⟨q, h⟩

/-- the global that stands first on a list, in memory -/
theorem glob_strs {P : Program} {W : World} {name : String} {zs : List (List UInt8)} {rest : List (String × DataW Unit)} {g : Nat} {t e : TypeId} {n : Nat} {ps : List MemPlace}
    (hg : P.globalNamed name = some g) (hty : (P.globals[g]?).map (·.type) = some t) (ht : P.underlying t = some (.array n e)) (he : P.underlying e = some .string) (hce : P.cellsOf e = 1) (hct : P.cellsOf t = n) (hn : 0 < n)
    (h : DataW.LaidVars P W ((name, strData zs) :: rest) ps) : g < W.heap.size ∧ ∀ im : Nat → Prop, im g → RepV W im (fun _ => .none) (fun _ => none) (.ip (.arr n .str) zs) (.pointer (some ⟨g, 0, none⟩)) := by
  obtain ⟨g', t', cs, fuel, p, q, hg', ht', hvar, hd, _, _⟩ := h
  obtain rfl := Option.some.inj (hg.symm.trans hg')
  obtain rfl := Option.some.inj (hty.symm.trans ht')
  obtain ⟨hl, hcs⟩ := cells_of_strs ht he hce hct hd
  have hcell : CellsAt W g 0 cs.toList := fun j v hj => by
    have := World.var?_cell hg hvar j
    rw [Nat.zero_add, this]
    simpa using hj
  refine ⟨?_, fun im him => ⟨⟨g, 0, rfl, him, cs.toList, hcell, hl, by rw [hcs]; exact strs_rep zs⟩, rfl⟩⟩
  rcases Nat.lt_or_ge g W.heap.size with hlt | hge
  · exact hlt
  · have h0 : ∃ v, cs.toList[0]? = some v := by
      rw [hcs]
      exact ⟨_, List.getElem?_eq_getElem (by simp; omega)⟩
    obtain ⟨v, hv⟩ := h0
    have := hcell 0 v hv
    simp [World.cell?, Array.getElem?_eq_none hge] at this

/-! ### a row's answer, where its arguments are numbers -/

/-! ### a world for the witness -/
mutual
def flatD : DataW Unit → List Value
  | .lit (.int k n) => [.int k n]
  | .lit (.string b) => [.string ⟨b.toArray⟩]
  | .lit (.bool b) => [.bool b]
  | .agg ps => flatDs ps
  | _ => []
def flatDs : List (DataW Unit) → List Value
  | [] => []
  | d :: r => flatD d ++ flatDs r
end
def layOne (d : DataW Unit) : Obj → Obj
  | .cells _ t frozen => .cells (flatD d).toArray t frozen
  | o => o
def layAll (P : Program) (w : World) : List (String × DataW Unit) → World
  | [] => w
  | (n, d) :: r =>
    match P.globalNamed n with
    | some g => layAll P { w with heap := w.heap.modify g (layOne d) } r
    | none => layAll P w r

end Go.Vm
namespace Go.Vm
universe u
variable {R : Type}

theorem bind_k {α : Type} (x : Option α) (k : α → Option R) {β : Type} (f : α → β) (g : β → Option R) (h : ∀ a, g (f a) = k a) : x.bind k = (x.bind fun a => some (f a)).bind g := by
  cases x with
  | none => rfl
  | some a => exact (h a).symm

theorem subD_eq : ∀ (t : Ty) (x : t.den) (p : List Nat) (R : Type) (k : Nat → AV → Option R), subD t x p k = (subD t x p (fun o u => some (o, u))).bind fun z => k z.1 z.2
  | .pair a b, x, 0 :: p, _, k => by simp only [subD]; exact subD_eq a x.1 p _ k
  | .pair a b, x, (i + 1) :: p, _, k => by
    simp only [subD]
    rw [subD_eq b x.2 (i :: p), subD_eq b x.2 (i :: p) _ (fun off u => some (a.size + off, u)), Option.bind_assoc]
    rfl
  | .arr n e, xs, i :: p, _, k => by
    simp only [subD]
    cases xs[i]? with
    | none => rfl
    | some y =>
      simp only [Option.bind_some]
      rw [subD_eq e y p, subD_eq e y p _ (fun off u => some (i * e.size + off, u)), Option.bind_assoc]
      rfl
  | .pair _ _, _, [], _, _ => rfl
  | .arr _ _, _, [], _, _ => rfl
  | .int _, _, [], _, _ => rfl
  | .bool, _, [], _, _ => rfl
  | .str, _, [], _, _ => rfl
  | .flt _, _, [], _, _ => rfl
  | .slice _, _, [], _, _ => rfl
  | .unit, _, [], _, _ => rfl
  | .int _, _, _ :: _, _, _ => rfl
  | .bool, _, _ :: _, _, _ => rfl
  | .str, _, _ :: _, _, _ => rfl
  | .flt _, _, _ :: _, _, _ => rfl
  | .slice _, _, _ :: _, _, _ => rfl
  | .unit, _, _ :: _, _, _ => rfl

theorem subA_eq : ∀ (a : AV) (p : List Nat) (R : Type) (k : Nat → AV → Option R), subA a p k = (subA a p (fun o u => some (o, u))).bind fun z => k z.1 z.2
  | .d t x, p, _, k => by simp only [subA]; exact subD_eq t x p _ k
  | .pr a b, 0 :: p, _, k => by simp only [subA]; exact subA_eq a p _ k
  | .pr a b, (i + 1) :: p, _, k => by
    simp only [subA]
    rw [subA_eq b (i :: p), subA_eq b (i :: p) _ (fun off u => some (a.asize + off, u)), Option.bind_assoc]
    rfl
  | .pr _ _, [], _, _ => rfl
  | .undef, [], _, _ => rfl
  | .ip _ _, [], _, _ => rfl
  | .op _ _ _, [], _, _ => rfl
  | .os _ _, [], _, _ => rfl
  | .oe _ _ _, [], _, _ => rfl
  | .ow _ _ _ _, [], _, _ => rfl
  | .nils, [], _, _ => rfl
  | .emp, [], _, _ => rfl
  | .tup _, [], _, _ => rfl
  | .fn _ _ _, [], _, _ => rfl
  | .nilfn, [], _, _ => rfl
  | .iface _ _, [], _, _ => rfl
  | .nilif, [], _, _ => rfl
  | .nilp, [], _, _ => rfl
  | .ref _, [], _, _ => rfl
  | .undef, _ :: _, _, _ => rfl
  | .ip _ _, _ :: _, _, _ => rfl
  | .op _ _ _, _ :: _, _, _ => rfl
  | .os _ _, _ :: _, _, _ => rfl
  | .oe _ _ _, _ :: _, _, _ => rfl
  | .ow _ _ _ _, _ :: _, _, _ => rfl
  | .nils, _ :: _, _, _ => rfl
  | .emp, _ :: _, _, _ => rfl
  | .tup _, _ :: _, _, _ => rfl
  | .fn _ _ _, _ :: _, _, _ => rfl
  | .nilfn, _ :: _, _, _ => rfl
  | .iface _ _, _ :: _, _, _ => rfl
  | .nilif, _ :: _, _, _ => rfl
  | .nilp, _ :: _, _, _ => rfl
  | .ref _, _ :: _, _, _ => rfl

theorem cond_leaf {c : Bool} {a : Nat} {v : AV} (k : Nat → AV → Option R) : (bif c then k a v else none) = (bif c then some (a, v) else none).bind fun z => k z.1 z.2 := by cases c <;> rfl

theorem setD_eq : ∀ (t : Ty) (x : t.den) (p : List Nat) (u : AV) (R : Type) (k : Nat → AV → Option R), setD t x p u k = (setD t x p u (fun o u => some (o, u))).bind fun z => k z.1 z.2
  | .pair a b, x, 0 :: p, u, _, k => by
    simp only [setD]
    rw [setD_eq a x.1 p u, setD_eq a x.1 p u _ (fun off a' => some (off, mkL a b a' x.2)), Option.bind_assoc]
    rfl
  | .pair a b, x, (i + 1) :: p, u, _, k => by
    simp only [setD]
    rw [setD_eq b x.2 (i :: p) u, setD_eq b x.2 (i :: p) u _ (fun off b' => some (a.size + off, mkR a b x.1 b')), Option.bind_assoc]
    rfl
  | .arr n e, xs, i :: p, u, _, k => by
    simp only [setD]
    cases xs[i]? with
    | none => rfl
    | some y =>
      simp only [Option.bind_some]
      rw [setD_eq e y p u]
      conv => rhs; rw [setD_eq, Option.bind_assoc]
      congr 1
      funext z
      cases z.2.asD e <;> rfl
  | .pair _ _, _, [], _, _, k => cond_leaf k
  | .arr _ _, _, [], _, _, k => cond_leaf k
  | .int _, _, [], _, _, k => cond_leaf k
  | .bool, _, [], _, _, k => cond_leaf k
  | .str, _, [], _, _, k => cond_leaf k
  | .flt _, _, [], _, _, k => cond_leaf k
  | .slice _, _, [], _, _, k => cond_leaf k
  | .unit, _, [], _, _, k => cond_leaf k
  | .int _, _, _ :: _, _, _, _ => rfl
  | .bool, _, _ :: _, _, _, _ => rfl
  | .str, _, _ :: _, _, _, _ => rfl
  | .flt _, _, _ :: _, _, _, _ => rfl
  | .slice _, _, _ :: _, _, _, _ => rfl
  | .unit, _, _ :: _, _, _, _ => rfl

theorem setA_eq : ∀ (a : AV) (p : List Nat) (u : AV) (R : Type) (k : Nat → AV → Option R), setA a p u k = (setA a p u (fun o u => some (o, u))).bind fun z => k z.1 z.2
  | .d t x, p, u, _, k => by simp only [setA]; exact setD_eq t x p u _ k
  | .pr a b, 0 :: p, u, _, k => by
    simp only [setA]
    rw [setA_eq a p u, setA_eq a p u _ (fun off a' => some (off, AV.pr a' b)), Option.bind_assoc]
    rfl
  | .pr a b, (i + 1) :: p, u, _, k => by
    simp only [setA]
    rw [setA_eq b (i :: p) u, setA_eq b (i :: p) u _ (fun off b' => some (a.asize + off, AV.pr a b')), Option.bind_assoc]
    rfl
  | .pr _ _, [], _, _, k => cond_leaf k
  | .undef, [], _, _, k => cond_leaf k
  | .ip _ _, [], _, _, k => cond_leaf k
  | .op _ _ _, [], _, _, k => cond_leaf k
  | .os _ _, [], _, _, k => cond_leaf k
  | .oe _ _ _, [], _, _, k => cond_leaf k
  | .ow _ _ _ _, [], _, _, k => cond_leaf k
  | .nils, [], _, _, k => cond_leaf k
  | .emp, [], _, _, k => cond_leaf k
  | .tup _, [], _, _, k => cond_leaf k
  | .fn _ _ _, [], _, _, k => cond_leaf k
  | .nilfn, [], _, _, k => cond_leaf k
  | .iface _ _, [], _, _, k => cond_leaf k
  | .nilif, [], _, _, k => cond_leaf k
  | .nilp, [], _, _, k => cond_leaf k
  | .ref _, [], _, _, k => cond_leaf k
  | .undef, _ :: _, _, _, _ => rfl
  | .ip _ _, _ :: _, _, _, _ => rfl
  | .op _ _ _, _ :: _, _, _, _ => rfl
  | .os _ _, _ :: _, _, _, _ => rfl
  | .oe _ _ _, _ :: _, _, _, _ => rfl
  | .ow _ _ _ _, _ :: _, _, _, _ => rfl
  | .nils, _ :: _, _, _, _ => rfl
  | .emp, _ :: _, _, _, _ => rfl
  | .tup _, _ :: _, _, _, _ => rfl
  | .fn _ _ _, _ :: _, _, _, _ => rfl
  | .nilfn, _ :: _, _, _, _ => rfl
  | .iface _ _, _ :: _, _, _, _ => rfl
  | .nilif, _ :: _, _, _, _ => rfl
  | .nilp, _ :: _, _, _, _ => rfl
  | .ref _, _ :: _, _, _, _ => rfl

section
variable {E : Env} {s : LSt}

theorem bld_eq {ps : List (Nat × Nat)} : ∀ (l : List (Nat × Operand)) (v : AV) (R : Type) (k : AV → Option R), bld E s ps l v k = (bld E s ps l v some).bind k
  | [], _, _, _ => rfl
  | (i, x) :: l, v, _, k => by
    simp only [bld]
    cases (s.ev E x).plain with
    | false => rfl
    | true =>
      simp only [cond_true]
      cases ps[i]? with
      | none => rfl
      | some q =>
        simp only
        cases Nat.beq (s.ev E x).asize q.2 with
        | false => rfl
        | true =>
          simp only [cond_true]
          rw [setA_eq, setA_eq (k := fun off' v' => bif Nat.beq off' q.1 then bld E s ps l v' some else none), Option.bind_assoc]
          congr 1
          funext z
          cases Nat.beq z.1 q.1 with
          | false => rfl
          | true => exact bld_eq l z.2 _ k

theorem free_eq {hp : LHp} {o : Nat} {e : E1} (k : E1 → Option R) : free? hp o (k e) = (free? hp o (some e)).bind k := by
  unfold free?; cases hget hp o <;> rfl

theorem opPick_eq (c x y : Operand) (k : E1 → Option R) : opPick E c x y s k = (opPick E c x y s some).bind k := by
  unfold opPick
  simp only [Bool.cond_eq_ite]
  repeat' (first | rfl | split)
theorem opUn_eq (u : UnOp) (x : Operand) (k : E1 → Option R) : opUn E u x s k = (opUn E u x s some).bind k := by
  unfold opUn
  repeat' (first | rfl | split)
theorem slNil_eq (b : BinOp) (t : TypeId) (a : AV) (k : E1 → Option R) : slNil E b t a s k = (slNil E b t a s some).bind k := by
  unfold slNil
  repeat' (first | rfl | split)
theorem stEq_eq (b : BinOp) (t : TypeId) (τ : Ty) (a : τ.den) (v : AV) (k : E1 → Option R) : stEq E b t τ a v s k = (stEq E b t τ a v s some).bind k := by
  unfold stEq
  simp only [Bool.cond_eq_ite]
  repeat' (first | rfl | split)
theorem opBin_eq (b : BinOp) (t : TypeId) (x y : Operand) (k : E1 → Option R) : opBin E b t x y s k = (opBin E b t x y s some).bind k := by
  unfold opBin
  simp only [Bool.cond_eq_ite]
  repeat' (first | rfl | exact bind_k _ _ _ _ (fun _ => rfl) | exact slNil_eq _ _ _ _ | exact stEq_eq _ _ _ _ _ _ | split)
theorem opConv_eq (a b : TypeId) (x : Operand) (k : E1 → Option R) : opConv E a b x s k = (opConv E a b x s some).bind k := by
  unfold opConv
  repeat' (first | rfl | split)
theorem opBox_eq (x : Operand) (k : E1 → Option R) : opBox E x s k = (opBox E x s some).bind k := by
  unfold opBox
  simp only [Bool.cond_eq_ite]
  repeat' (first | rfl | exact free_eq _ | split)
theorem opAlloc_eq (t : TypeId) (k : E1 → Option R) : opAlloc E t s k = (opAlloc E t s some).bind k := by
  unfold opAlloc
  repeat' (first | rfl | exact free_eq _ | split)
end
end Go.Vm
namespace Go.Vm
universe u
variable {R : Type}

theorem subA_b {a : AV} {p : List Nat} {G : Nat → AV → Option R} {g : Nat → AV → Option E1} {k : E1 → Option R} (h : ∀ o u, G o u = (g o u).bind k) : subA a p G = (subA a p g).bind k := by
  rw [subA_eq]
  conv => rhs; rw [subA_eq, Option.bind_assoc]
  congr 1
  funext z
  exact h z.1 z.2
theorem subD_b {t : Ty} {x : t.den} {p : List Nat} {G : Nat → AV → Option R} {g : Nat → AV → Option E1} {k : E1 → Option R} (h : ∀ o u, G o u = (g o u).bind k) : subD t x p G = (subD t x p g).bind k := by
  rw [subD_eq]
  conv => rhs; rw [subD_eq, Option.bind_assoc]
  congr 1
  funext z
  exact h z.1 z.2
theorem setA_b {a u : AV} {p : List Nat} {G : Nat → AV → Option R} {g : Nat → AV → Option E1} {k : E1 → Option R} (h : ∀ o u, G o u = (g o u).bind k) : setA a p u G = (setA a p u g).bind k := by
  rw [setA_eq]
  conv => rhs; rw [setA_eq, Option.bind_assoc]
  congr 1
  funext z
  exact h z.1 z.2
theorem bind_b {α : Type} {x : Option α} {G : α → Option R} {g : α → Option E1} {k : E1 → Option R} (h : ∀ a, G a = (g a).bind k) : x.bind G = (x.bind g).bind k := by
  cases x with
  | none => rfl
  | some a => exact h a

section
variable {E : Env} {s : LSt}
theorem bld_b {ps : List (Nat × Nat)} {l : List (Nat × Operand)} {v : AV} {G : AV → Option R} {g : AV → Option E1} {k : E1 → Option R} (h : ∀ a, G a = (g a).bind k) : bld E s ps l v G = (bld E s ps l v g).bind k := by
  rw [bld_eq]
  conv => rhs; rw [bld_eq, Option.bind_assoc]
  congr 1
  funext z
  exact h z

theorem opLoad_eq (t : TypeId) (x : Operand) (k : E1 → Option R) : opLoad E t x s k = (opLoad E t x s some).bind k := by
  unfold opLoad
  simp only [Bool.cond_eq_ite]
  repeat' (first | rfl | exact bind_b (fun _ => rfl) | (refine subA_b fun _ _ => ?_) | split)
theorem opStore_eq (t : TypeId) (x y : Operand) (k : E1 → Option R) : opStore E t x y s k = (opStore E t x y s some).bind k := by
  unfold opStore
  simp only [Bool.cond_eq_ite]
  repeat' (first | rfl | exact bind_b (fun _ => rfl) | (refine setA_b fun _ _ => ?_) | split)
theorem opNil_eq (x : Operand) (k : E1 → Option R) : opNil E x s k = (opNil E x s some).bind k := by
  unfold opNil
  simp only [Bool.cond_eq_ite]
  repeat' (first | rfl | split)
theorem opIface_eq (t : TypeId) (x : Operand) (k : E1 → Option R) : opIface E t x s k = (opIface E t x s some).bind k := by
  unfold opIface
  simp only [Bool.cond_eq_ite]
  repeat' (first | rfl | split)
theorem opFunc_eq (f : Fn) (a b : Array Operand) (k : E1 → Option R) : opFunc E f a b s k = (opFunc E f a b s some).bind k := by
  unfold opFunc
  simp only [Bool.cond_eq_ite]
  repeat' (first | rfl | split)
theorem opMake_eq (t : TypeId) (x y : Operand) (k : E1 → Option R) : opMake E t x y s k = (opMake E t x y s some).bind k := by
  unfold opMake
  simp only [Bool.cond_eq_ite]
  repeat' (first | rfl | exact bind_b (fun _ => free_eq _) | split)
theorem opSlice3_eq (t : TypeId) (x : Operand) (lo : Option Operand) (h m : Operand) (k : E1 → Option R) : opSlice3 E t x lo h m s k = (opSlice3 E t x lo h m s some).bind k := by
  unfold opSlice3
  simp only [Bool.cond_eq_ite]
  repeat' (first | rfl | exact bind_b (fun _ => rfl) | split)
theorem opSlice_eq (tr kp : Bool) (t : TypeId) (x : Operand) (lo hi mx : Option Operand) (k : E1 → Option R) : opSlice E tr kp t x lo hi mx s k = (opSlice E tr kp t x lo hi mx s some).bind k := by
  unfold opSlice
  simp only [Bool.cond_eq_ite]
  repeat' (first | rfl | exact bind_b (fun _ => rfl) | exact opSlice3_eq _ _ _ _ _ _ | split)
theorem opFieldAddr_eq (t : TypeId) (x : Operand) (f : Nat) (k : E1 → Option R) : opFieldAddr E t x f s k = (opFieldAddr E t x f s some).bind k := by
  unfold opFieldAddr
  simp only [Bool.cond_eq_ite]
  repeat' (first | rfl | exact bind_b (fun _ => rfl) | (refine subD_b fun _ _ => ?_) | split)
theorem opField_eq (t : TypeId) (x : Operand) (f : Nat) (k : E1 → Option R) : opField E t x f s k = (opField E t x f s some).bind k := by
  unfold opField
  simp only [Bool.cond_eq_ite]
  repeat' (first | rfl | (refine subA_b fun _ _ => ?_) | split)
theorem opIndexAddr_eq (t : TypeId) (x y : Operand) (k : E1 → Option R) : opIndexAddr E t x y s k = (opIndexAddr E t x y s some).bind k := by
  unfold opIndexAddr
  simp only [Bool.cond_eq_ite]
  repeat' (first | rfl | exact bind_b (fun _ => rfl) | (refine subA_b fun _ _ => ?_) | split)
theorem opIndex_eq (t : TypeId) (x y : Operand) (k : E1 → Option R) : opIndex E t x y s k = (opIndex E t x y s some).bind k := by
  unfold opIndex
  simp only [Bool.cond_eq_ite]
  repeat' (first | rfl | exact bind_b (fun _ => rfl) | split)
theorem opAssert_eq (x : Operand) (t : TypeId) (b : Bool) (k : E1 → Option R) : opAssert E x t b s k = (opAssert E x t b s some).bind k := by
  unfold opAssert
  simp only [Bool.cond_eq_ite]
  repeat' (first | rfl | split)
theorem opExtract_eq (x : Operand) (i : Nat) (k : E1 → Option R) : opExtract E x i s k = (opExtract E x i s some).bind k := by
  unfold opExtract
  repeat' (first | rfl | split)
theorem opMakeMap_eq (k : E1 → Option R) : opMakeMap s k = (opMakeMap s some).bind k := free_eq _
theorem opMapSet_eq (t : TypeId) (x y z : Operand) (k : E1 → Option R) : opMapSet E t x y z s k = (opMapSet E t x y z s some).bind k := by
  unfold opMapSet
  simp only [Bool.cond_eq_ite]
  repeat' (first | rfl | split)
theorem opLookup_eq (t : TypeId) (x y : Operand) (k : E1 → Option R) : opLookup E t x y s k = (opLookup E t x y s some).bind k := by
  unfold opLookup
  repeat' (first | rfl | split)
theorem opLen_eq (t : TypeId) (x : Operand) (k : E1 → Option R) : opLen E t x s k = (opLen E t x s some).bind k := by
  unfold opLen
  simp only [Bool.cond_eq_ite]
  repeat' (first | rfl | split)
theorem opCap_eq (t : TypeId) (x : Operand) (k : E1 → Option R) : opCap E t x s k = (opCap E t x s some).bind k := by
  unfold opCap
  repeat' (first | rfl | split)
theorem opMax_eq (x y : Operand) (k : E1 → Option R) : opMax E x y s k = (opMax E x y s some).bind k := by
  unfold opMax
  split <;> rfl
theorem opMin_eq (x y : Operand) (k : E1 → Option R) : opMin E x y s k = (opMin E x y s some).bind k := by
  unfold opMin
  split <;> rfl
theorem opAppend_eq (t t2 : TypeId) (x y : Operand) (k : E1 → Option R) : opAppend E t t2 x y s k = (opAppend E t t2 x y s some).bind k := by
  unfold opAppend
  simp only [Bool.cond_eq_ite]
  repeat' (first | rfl | exact bind_b (fun _ => free_eq _) | exact bind_b (fun _ => rfl) | split)
theorem opAppendZ_eq (t t2 : TypeId) (x y : Operand) (k : E1 → Option R) : opAppendZ E t t2 x y s k = (opAppendZ E t t2 x y s some).bind k := by
  unfold opAppendZ
  simp only [Bool.cond_eq_ite]
  repeat' (first | rfl | exact free_eq _ | split)
theorem opBuild_eq (t : TypeId) (ps : Array (Nat × Operand)) (k : E1 → Option R) : opBuild E t ps s k = (opBuild E t ps s some).bind k := by
  unfold opBuild
  simp only [Bool.cond_eq_ite]
  repeat' (first | rfl | (refine bld_b fun _ => ?_) | split)
theorem opLit_eq (t : TypeId) (n : Nat) (ps : Array (Nat × Operand)) (k : E1 → Option R) : opLit E t n ps s k = (opLit E t n ps s some).bind k := by
  unfold opLit
  simp only [Bool.cond_eq_ite]
  repeat' (first | rfl | exact free_eq _ | split)
end
end Go.Vm
namespace Go.Vm
universe u
variable {R : Type}

abbrev Pn := TypeId × Int × LHp
def kk (k : E1 → Option R) (kp : TypeId → Int → LHp → Option R) : E1 ⊕ Pn → Option R
  | .inl e => k e
  | .inr p => kp p.1 p.2.1 p.2.2
theorem via {X : Option E1} {A : Option R} {B : Option (E1 ⊕ Pn)} {k : E1 → Option R} {kp : TypeId → Int → LHp → Option R} (h1 : A = X.bind k) (h2 : B = X.bind fun e => some (.inl e)) : A = B.bind (kk k kp) := by
  subst h1 h2
  rw [Option.bind_assoc]; rfl
theorem bind_c {α β : Type} {x : Option α} {G : α → Option R} {g : α → Option β} {k : β → Option R} (h : ∀ a, G a = (g a).bind k) : x.bind G = (x.bind g).bind k := by
  cases x with
  | none => rfl
  | some a => exact h a

theorem callE_eq {g : FnE} (hg : ∀ {R : Type} (args : List AV) (hs : LHp) (k : AEnd → LHp → Option R), g.run args hs k = (g.run args hs fun a h => some (a, h)).bind fun p => k p.1 p.2) (args : List AV) (s : LSt) (k : E1 → Option R) (kp : TypeId → Int → LHp → Option R) :
    callE g args s k kp = (callE g args s (fun e => some (.inl e)) (fun t n w => some (.inr (t, n, w)))).bind (kk k kp) := by
  unfold callE
  simp only [Bool.cond_eq_ite]
  split
  · split
    · split
      · rw [hg]
        conv => rhs; rw [hg]
        refine bind_c fun p => ?_
        repeat' (first | rfl | split)
      · rfl
    · rfl
  · rfl

theorem opYield_eq {g : RoundE} (hg : ∀ {R : Type} (o : Nat) (args : List AV) (hs : LHp) (k : Bool → LHp → Option R), g.run o args hs k = (g.run o args hs fun a h => some (a, h)).bind fun p => k p.1 p.2) (q : Nat) (args : List AV) (s : LSt) (k : E1 → Option R) :
    opYield g q args s k = (opYield g q args s some).bind k := by
  unfold opYield
  simp only [Bool.cond_eq_ite]
  split
  · split
    · rfl
    · split
      · split
        · split
          · rw [hg]
            conv => rhs; rw [hg]
            refine bind_c fun p => ?_
            repeat' (first | rfl | split)
          · rfl
        · rfl
      · rfl
  · rfl

section
variable {E : Env} {s : LSt}

theorem opCall_eq (hE : E.Good) (dst : Option Tmp) (c : Call) (k : E1 → Option R) (kp : TypeId → Int → LHp → Option R) :
    opCall E dst c s k kp = (opCall E dst c s (fun e => some (.inl e)) (fun t n w => some (.inr (t, n, w)))).bind (kk k kp) := by
  unfold opCall
  simp only [Bool.cond_eq_ite]
  split
  · split
    · split
      · rename_i g hg
        exact callE_eq (fun args hs k => (hE.calls _ (lk_mem hg)).eq args hs k) _ _ _ _
      · split
        · rename_i g hg _
          have he := fun {R : Type} (args : List AV) (k : AV → Option R) => (hE.exts _ (lk_mem hg)).eq args k
          simp only at he
          rw [he]
          conv => rhs; rw [he]
          exact bind_c fun _ => rfl
        · rfl
    · split
      · rename_i g hg
        exact via (opYield_eq (fun o args hs k => (hE.round _ hg).eq o args hs k) _ _ _ _) (opYield_eq (fun o args hs k => (hE.round _ hg).eq o args hs k) _ _ _ _)
      · rfl
    · rfl
  · split
    · exact via (opLen_eq _ _ _) (opLen_eq _ _ _)
    · split
      · exact via (opAppend_eq _ _ _ _ _) (opAppend_eq _ _ _ _ _)
      · split
        · exact via (opAppendZ_eq _ _ _ _ _) (opAppendZ_eq _ _ _ _ _)
        · rfl
    · exact via (opCap_eq _ _ _) (opCap_eq _ _ _)
    · exact via (opMax_eq _ _ _) (opMax_eq _ _ _)
    · exact via (opMin_eq _ _ _) (opMin_eq _ _ _)
    · rfl
  · rfl

theorem op1_eq (hE : E.Good) (o : Oper) (k : E1 → Option R) (kp : TypeId → Int → LHp → Option R) :
    op1 E o s k kp = (op1 E o s (fun e => some (.inl e)) (fun t n w => some (.inr (t, n, w)))).bind (kk k kp) := by
  unfold op1
  simp only [Bool.cond_eq_ite]
  repeat' (first
    | rfl
    | exact via (opPick_eq _ _ _ _) (opPick_eq _ _ _ _)
    | exact via (opAlloc_eq _ _) (opAlloc_eq _ _)
    | exact via (opBox_eq _ _) (opBox_eq _ _)
    | exact via (opBuild_eq _ _ _) (opBuild_eq _ _ _)
    | exact via (opLit_eq _ _ _ _) (opLit_eq _ _ _ _)
    | exact via (opLoad_eq _ _ _) (opLoad_eq _ _ _)
    | exact via (opStore_eq _ _ _ _) (opStore_eq _ _ _ _)
    | exact via (opNil_eq _ _) (opNil_eq _ _)
    | exact via (opBin_eq _ _ _ _ _) (opBin_eq _ _ _ _ _)
    | exact via (opUn_eq _ _ _) (opUn_eq _ _ _)
    | exact via (opConv_eq _ _ _ _) (opConv_eq _ _ _ _)
    | exact via (opIface_eq _ _ _) (opIface_eq _ _ _)
    | exact via (opFunc_eq _ _ _ _) (opFunc_eq _ _ _ _)
    | exact via (opMake_eq _ _ _ _) (opMake_eq _ _ _ _)
    | exact via (opSlice_eq _ _ _ _ _ _ _ _) (opSlice_eq _ _ _ _ _ _ _ _)
    | exact via (opFieldAddr_eq _ _ _ _) (opFieldAddr_eq _ _ _ _)
    | exact via (opField_eq _ _ _ _) (opField_eq _ _ _ _)
    | exact via (opIndexAddr_eq _ _ _ _) (opIndexAddr_eq _ _ _ _)
    | exact via (opIndex_eq _ _ _ _) (opIndex_eq _ _ _ _)
    | exact via (opAssert_eq _ _ _ _) (opAssert_eq _ _ _ _)
    | exact via (opExtract_eq _ _ _) (opExtract_eq _ _ _)
    | exact via (opMakeMap_eq _) (opMakeMap_eq _)
    | exact via (opMapSet_eq _ _ _ _ _) (opMapSet_eq _ _ _ _ _)
    | exact via (opLookup_eq _ _ _ _) (opLookup_eq _ _ _ _)
    | exact opCall_eq hE _ _ _ _
    | split)

theorem guardN_eq {α : Type} {n : Nat} {ops : Array Oper} {o : Oper} {on off : LSt → Option R} {on' off' : LSt → Option α} {K : α → Option R} (h1 : ∀ s, on s = (on' s).bind K) (h2 : ∀ s, off s = (off' s).bind K) :
    guardN n ops o s on off = (guardN n ops o s on' off').bind K := by
  unfold guardN
  simp only [Bool.cond_eq_ite]
  repeat' (first | rfl | exact h1 _ | exact h2 _ | split)
def kr (k : LSt → Option R) (kp : TypeId → Int → LSt → Option R) : LSt ⊕ (TypeId × Int × LSt) → Option R
  | .inl e => k e
  | .inr p => kp p.1 p.2.1 p.2.2
theorem regN_eq (hE : E.Good) {n : Nat} {ops : Array Oper} : ∀ (l : List Oper) (s : LSt) (k : LSt → Option R) (kp : TypeId → Int → LSt → Option R),
    regN E n ops l s k kp = (regN E n ops l s (fun s => some (.inl s)) (fun t m s => some (.inr (t, m, s)))).bind (kr k kp)
  | [], _, _, _ => rfl
  | o :: l, s, k, kp => by
    simp only [regN]
    refine guardN_eq (fun s1 => ?_) (fun s1 => regN_eq hE l _ k kp)
    rw [op1_eq hE]
    conv => rhs; rw [op1_eq hE]
    refine bind_c fun p => ?_
    cases p with
    | inl e => exact regN_eq hE l _ k kp
    | inr p => rfl
theorem op1D_eq (hE : E.Good) (o : Oper) (k : E1 → Option R) (kp : TypeId → Int → LHp → Option R) :
    op1D E o s k kp = (op1D E o s (fun e => some (.inl e)) (fun t n w => some (.inr (t, n, w)))).bind (kk k kp) := by
  unfold op1D
  split
  · split
    · split
      · rename_i g hg
        rw [callE_eq (fun args hs k => (hE.calls _ (lk_mem hg)).eq args hs k)]
        conv => rhs; rw [callE_eq (fun args hs k => (hE.calls _ (lk_mem hg)).eq args hs k)]
        rw [Option.bind_assoc]
        congr 1
        funext p
        cases p <;> rfl
      · exact op1_eq hE o k kp
    · exact op1_eq hE o k kp
  · exact op1_eq hE o k kp
theorem regD_eq (hE : E.Good) {n : Nat} {ops : Array Oper} : ∀ (l : List Oper) (s : LSt) (ks : List Eff) (k : LSt → Option R) (kp : TypeId → Int → LSt → Option R),
    regD E n ops l s ks k kp = (regD E n ops l s ks (fun s => some (.inl s)) (fun t m s => some (.inr (t, m, s)))).bind (kr k kp)
  | [], s, ks, k, kp => by
    simp only [regD, Bool.cond_eq_ite]
    split <;> rfl
  | o :: l, s, ks, k, kp => by
    simp only [regD]
    refine guardN_eq (fun s1 => ?_) (fun s1 => regD_eq hE l _ _ k kp)
    rw [op1D_eq hE]
    conv => rhs; rw [op1D_eq hE]
    refine bind_c fun p => ?_
    cases p with
    | inl e => exact regD_eq hE l _ _ k kp
    | inr p =>
      cases h : panD ops o ks with
      | true => simp only [kk, h, cond_true]; rfl
      | false => simp only [kk, h, cond_false]; rfl
end
end Go.Vm
namespace Go.Vm

variable {R : Type}

def blkK (id : Nat) (k : AEx → LSt → Option R) : AEx → LSt → Option R := fun e s' =>
  match e with
  | .normal => k .normal s'
  | .exit i => bif Nat.beq i id then k .normal s' else k (.exit i) s'
  | .ret => k .ret s'
  | .panic t m => k (.panic t m) s'
abbrev I (n : Int) : AV := .d (.int .i64) n
abbrev B (b : Bool) : AV := .d .bool b
abbrev i64T : Ty := .int .i64
def codeOf (f : Func) : Code := match f.body with | some c => c | none => .skip
def cL : Code → Code
  | .seq a _ => a
  | .block _ c => c
  | .loop c => c
  | .cond _ a _ => a
  | c => c
def cR : Code → Code
  | .seq _ b => b
  | .cond _ _ b => b
  | c => c

theorem loopM_run {S X : Type} {B : S → Option (Stp S X)} {f : Nat → S} {r : X} : ∀ (n m : Nat), n < m → (∀ i, i < n → B (f i) = some (.next (f (i + 1)))) → B (f n) = some (.done r) → loopM B m (f 0) = some r := by
  intro n
  induction n generalizing f with
  | zero =>
    intro m hm _ hd
    cases m with
    | zero => omega
    | succ m => simp only [loopM, hd]
  | succ n ih =>
    intro m hm hs hd
    cases m with
    | zero => omega
    | succ m =>
      simp only [loopM, hs 0 (by omega)]
      exact ih (f := fun i => f (i + 1)) m (by omega) (fun i hi => hs (i + 1) (by omega)) hd

theorem app_eq {α : Type} {xs ys : List α} (h : xs.length + ys.length ≤ lim) : app xs ys = some (xs ++ ys) := if_pos h

theorem wrap64 {n : Int} (h0 : -9223372036854775808 ≤ n) (h1 : n < 9223372036854775808) : IntKind.i64.wrap n = n := by
  rw [IntKind.wrap_i64]; omega

/-- a function by what it answers -/
theorem FnE.OK.of {P : Program} {Γ : Nat → Option AV} {f : FuncId} {g g' : FnE} (h : FnE.OK P Γ f g)
    (nat : ∀ {R : Type} (args : List AV) (hs : LHp) (k : AEnd → LHp → Option R), g'.run args hs k = (g'.run args hs fun a h => some (a, h)).bind fun p => k p.1 p.2)
    (eq : ∀ args hs ae hs', g'.run args hs (fun a h => some (a, h)) = some (ae, hs') → g.run args hs (fun a h => some (a, h)) = some (ae, hs')) : FnE.OK P Γ f g' :=
  ⟨nat, fun args hs ae hs' hr => h.ok args hs ae hs' (eq args hs ae hs' hr)⟩

/-- a pure answer -/
def fnE (F : List AV → LHp → Option (AEnd × LHp)) : FnE := { run := fun args hs k => (F args hs).bind fun p => k p.1 p.2 }
theorem fnE_ok {P : Program} {Γ : Nat → Option AV} {f : FuncId} {g : FnE} {F : List AV → LHp → Option (AEnd × LHp)} (h : FnE.OK P Γ f g)
    (eq : ∀ args hs p, F args hs = some p → g.run args hs (fun a h => some (a, h)) = some p) : FnE.OK P Γ f (fnE F) :=
  FnE.OK.of h (fun args hs k => by
    simp only [fnE]
    cases F args hs <;> rfl) (fun args hs ae hs' hr => by
    simp only [fnE] at hr
    obtain ⟨p, hp, hr⟩ := bind_some hr
    cases hr
    exact eq _ _ _ hp)

end Go.Vm
namespace Go.Vm

def xFrombits (fk : FloatKind) (ik : IntKind) : ExtE := { run := fun args k => match args with
  | [.d (.int i) n] => bif decide (i = ik) then k (.d (.flt fk) (canonF fk n.toNat)) else none
  | _ => none }
def xBits (fk : FloatKind) (ik : IntKind) : ExtE := { run := fun args k => match args with
  | [.d (.flt f) b] => bif decide (f = fk) then (bif fNaN fk b then none else k (.d (.int ik) (b : Int))) else none
  | _ => none }

theorem xFrombits_ok {P : Program} {f : FuncId} {fn : Func} {fk : FloatKind} {ik : IntKind} {row : Array Value → Sem Value} (hrow : ∀ n, row #[.int ik n] = pure (.float fk n.toNat)) (hf : P.funcs[f]? = some fn) (hb : fn.body.isNone = true) (hn : (fn.name == "runtime.NumGoroutine") = false) (hx : Extern.findNext fn = none) (hr : Extern.find fn = some row) : ExtE.OK P f (xFrombits fk ik) := by
  refine ⟨fun args k => by
    simp only [xFrombits]
    split
    · rename_i i n
      cases decide (i = ik) <;> rfl
    · rfl, fun args k r h => ?_⟩
  simp only [xFrombits] at h
  split at h
  · rename_i i n
    cases hc : decide (i = ik) with
    | false => rw [hc] at h; cases h
    | true =>
      rw [hc] at h
      obtain rfl := of_decide_eq_true hc
      refine ⟨_, h, fun w im μ hp vals hl hv => ?_⟩
      obtain ⟨u, rfl, h1⟩ := one_val hl hv
      have e1 := scal_eq (u := .int i n) rfl h1
      subst e1
      refine ⟨.float fk n.toNat, w, ext_run hf hb hn hx hr _ w w ?_, rfl, rfl, rfl, rfl, ?_⟩
      · rw [hrow]; rfl
      · exact ⟨⟨_, rfl, rfl⟩, rfl⟩
  · cases h

theorem xBits_ok {P : Program} {f : FuncId} {fn : Func} {fk : FloatKind} {ik : IntKind} {row : Array Value → Sem Value} (hrow : ∀ n, row #[.float fk n] = pure (.int ik n)) (hf : P.funcs[f]? = some fn) (hb : fn.body.isNone = true) (hn : (fn.name == "runtime.NumGoroutine") = false) (hx : Extern.findNext fn = none) (hr : Extern.find fn = some row) : ExtE.OK P f (xBits fk ik) := by
  refine ⟨fun args k => by
    simp only [xBits]
    split
    · rename_i i n
      cases decide (i = fk) <;> cases fNaN fk n <;> rfl
    · rfl, fun args k r h => ?_⟩
  simp only [xBits] at h
  split at h
  · rename_i g b
    cases hc : decide (g = fk) with
    | false => rw [hc] at h; cases h
    | true =>
      rw [hc] at h
      obtain rfl := of_decide_eq_true hc
      simp only [cond_true] at h
      cases hq : fNaN g b with
      | true => rw [hq] at h; cases h
      | false =>
        rw [hq] at h
        refine ⟨_, h, fun w im μ hp vals hl hv => ?_⟩
        obtain ⟨u, rfl, h1⟩ := one_val hl hv
        obtain ⟨⟨q, h2, h3⟩, h4⟩ := h1
        have hq' : q = b := by
          unfold canonF at h3
          cases hn' : fNaN g q with
          | true =>
            rw [if_pos hn'] at h3
            subst h3
            cases g <;> exact absurd hq (by decide)
          | false => rw [hn'] at h3; simpa using h3
        subst hq'
        have e1 : u = .float g q := by
          cases u <;> simp_all [Value.cells, vIsAgg, AV.isAgg, Ty.isAgg]
        subst e1
        refine ⟨.int ik q, w, ext_run hf hb hn hx hr _ w w ?_, rfl, rfl, rfl, rfl, constAV_rep _ _ _ _ (.int ik _)⟩
        rw [hrow]; rfl
  · cases h

/-! ### answers as trees -/

inductive Tq : Type 1 where
  | leaf (a : AEnd) (h : LHp)
  | br (c : Bool) (a b : Tq)
  | opt {α : Type} (x : Option α) (f : α → Tq)
  | no
def Tq.run {R : Type} : Tq → (AEnd → LHp → Option R) → Option R
  | .leaf a h, k => k a h
  | .br c a b, k => bif c then a.run k else b.run k
  | .opt x f, k => x.bind fun v => (f v).run k
  | .no, _ => none
theorem Tq.eq : ∀ (t : Tq) {R : Type} (k : AEnd → LHp → Option R), t.run k = (t.run fun a h => some (a, h)).bind fun p => k p.1 p.2
  | .leaf _ _, _, _ => rfl
  | .br c a b, _, k => by
    cases c with
    | true => exact Tq.eq a k
    | false => exact Tq.eq b k
  | .opt x f, _, k => by
    cases x with
    | none => rfl
    | some v => exact Tq.eq (f v) k
  | .no, _, _ => rfl
theorem Tq.br_no {R : Type} {c : Bool} {t : Tq} {k : AEnd → LHp → Option R} {r : R} (h : (Tq.br c t .no).run k = some r) : c = true ∧ t.run k = some r := by
  cases c with
  | true => exact ⟨rfl, h⟩
  | false => cases h

def treeE (F : List AV → LHp → Tq) : FnE := { run := fun args hs k => (F args hs).run k }
theorem treeE_ok {P : Program} {Γ : Nat → Option AV} {f : FuncId} {g : FnE} {F : List AV → LHp → Tq} (h : FnE.OK P Γ f g)
    (eq : ∀ args hs p, (F args hs).run (fun a h => some (a, h)) = some p → g.run args hs (fun a h => some (a, h)) = some p) : FnE.OK P Γ f (treeE F) :=
  FnE.OK.of h (fun _ _ _ => Tq.eq _ _) fun args hs ae hs' hr => eq args hs _ hr

end Go.Vm
namespace Go.Vm

def idxP {α : Type} (p : α → Bool) (xs : List α) : Int := match xs.findIdx? p with | some i => (i : Int) | none => -1
theorem idxP_ge {α : Type} (p : α → Bool) (xs : List α) : decide (idxP p xs ≥ 0) = xs.any p := by
  unfold idxP
  cases h : xs.findIdx? p with
  | none =>
    rw [List.findIdx?_eq_none_iff] at h
    have : xs.any p = false := by rw [List.any_eq_false]; intro x hx; simp [h x hx]
    rw [this]; rfl
  | some i =>
    have : xs.any p = true := by
      obtain ⟨hi, hp, _⟩ := List.findIdx?_eq_some_iff_getElem.1 h
      exact List.any_eq_true.2 ⟨xs[i], List.getElem_mem hi, hp⟩
    rw [this]
    exact decide_eq_true (by simp only; omega)

/-- a loop that goes through a list to the first element that p holds of -/
theorem find_run {S X α : Type} {B : S → Option (Stp S X)} {xs : List α} {p : α → Bool} {st : Int → S} {r : Int → α → X} {r0 : Int → X} (hl : xs.length ≤ maxLen)
    (h : ∀ i : Int, B (st i) = bif decide (i < Int.ofNat xs.length) then (idx xs i).bind fun x => bif p x then some (.done (r i x)) else some (.next (st (IntKind.i64.wrap (i + 1)))) else some (.done (r0 i))) :
    loopM B fu (st 0) = (match xs.findIdx? p with | some i => (xs[i]?).bind fun x => some (r (i : Int) x) | none => some (r0 (Int.ofNat xs.length))) := by
  have hm : maxLen = 9223372036854775807 := by decide
  have hf : fu = 18446744073709551616 := rfl
  have step : ∀ i, i < xs.length → (∀ x, xs[i]? = some x → p x = false) → B (st (i : Nat)) = some (.next (st ((i + 1 : Nat) : Int))) := by
    intro i hi hp
    obtain ⟨x, hx⟩ : ∃ x, xs[i]? = some x := ⟨xs[i], List.getElem?_eq_getElem hi⟩
    have hidx : idx xs (i : Int) = some x := by unfold idx; rw [if_pos (by omega), Int.toNat_natCast, hx]
    rw [h i, decide_eq_true (show (i : Int) < Int.ofNat xs.length from Int.ofNat_lt.2 hi), hidx]
    simp only [cond_true, Option.bind_some, hp x hx, cond_false]
    rw [wrap64 (by omega) (by omega)]
    rfl
  cases hq : xs.findIdx? p with
  | none =>
    rw [List.findIdx?_eq_none_iff] at hq
    refine loopM_run (f := fun i : Nat => st (i : Int)) xs.length fu (by omega) (fun i hi => step i hi fun x hx => ?_) ?_
    · have := hq x (List.mem_of_getElem? hx); simpa using this
    · show B (st ((xs.length : Nat) : Int)) = _
      rw [h, decide_eq_false (show ¬ ((xs.length : Nat) : Int) < Int.ofNat xs.length from Int.lt_irrefl _)]
      rfl
  | some n =>
    obtain ⟨hn, hp, hnp⟩ := List.findIdx?_eq_some_iff_getElem.1 hq
    have hx : xs[n]? = some xs[n] := List.getElem?_eq_getElem hn
    show loopM B fu (st 0) = (xs[n]?).bind _
    rw [hx]
    refine loopM_run (f := fun i : Nat => st (i : Int)) n fu (by omega) (fun i hi => step i (by omega) fun x hx => ?_) ?_
    · have := hnp i hi
      rw [List.getElem?_eq_getElem (by omega)] at hx
      cases hx
      simpa using this
    · show B (st (n : Int)) = _
      have hidx : idx xs (n : Int) = some xs[n] := by unfold idx; rw [if_pos (by omega), Int.toNat_natCast, hx]
      rw [h n, decide_eq_true (show (n : Int) < Int.ofNat xs.length from Int.ofNat_lt.2 hn), hidx]
      simp only [cond_true, Option.bind_some, hp]

end Go.Vm
namespace Go.Vm
universe u
variable {R : Type}

abbrev pairK : AEx → LSt → Option (AEx × LSt) := fun e s => some (e, s)
def pk (k : AEx → LSt → Option R) : AEx × LSt → Option R := fun p => k p.1 p.2

theorem ex_eq {E : Env} (hE : E.Good) {cf : Cfg} : ∀ (c : Code) {R : Type} (s : LSt) (k : AEx → LSt → Option R), ex E cf c s k = (ex E cf c s pairK).bind (pk k) := by
  intro c
  induction c with
  | skip => intro R s k; rfl
  | label l => intro R s k; rfl
  | ret => intro R s k; rfl
  | exit id => intro R s k; rfl
  | region id ops dr =>
    intro R s k
    simp only [ex]
    cases dr with
    | true =>
      simp only [cond_true]
      rw [regD_eq hE]
      conv => rhs; rw [regD_eq hE]
      refine bind_c fun p => ?_
      cases p <;> rfl
    | false =>
      simp only [cond_false]
      rw [regN_eq hE]
      conv => rhs; rw [regN_eq hE]
      refine bind_c fun p => ?_
      cases p <;> rfl
  | seq a b iha ihb =>
    intro R s k
    simp only [ex]
    rw [iha]
    conv => rhs; rw [iha]
    refine bind_c fun p => ?_
    obtain ⟨e, s'⟩ := p
    cases e with
    | normal => exact ihb s' k
    | exit id => rfl
    | ret => rfl
    | panic t m => rfl
  | cond c a b iha ihb =>
    intro R s k
    simp only [ex, Bool.cond_eq_ite]
    split
    · split
      · exact iha _ k
      · exact ihb _ k
    · rfl
  | block id c ih =>
    intro R s k
    simp only [ex]
    rw [ih]
    conv => rhs; rw [ih]
    refine bind_c fun p => ?_
    obtain ⟨e, s'⟩ := p
    cases e with
    | exit i =>
      simp only [pk]
      cases Nat.beq i id <;> rfl
    | normal => rfl
    | ret => rfl
    | panic t m => rfl
  | loop c ih =>
    intro R s k
    simp only [ex]
    split
    · exact bind_c fun _ => rfl
    · rfl
  | rangeFunc fop ps assign body _ _ =>
    intro R s k
    simp only [ex, Bool.cond_eq_ite]
    split
    · split
      · split
        · rename_i g hg _
          rw [callE_eq (fun args hs k => (hE.calls _ (lk_mem hg)).eq args hs k)]
          conv => rhs; rw [callE_eq (fun args hs k => (hE.calls _ (lk_mem hg)).eq args hs k)]
          refine bind_c fun p => ?_
          cases p with
          | inl e =>
            simp only [kk]
            repeat' (first | rfl | split)
          | inr p => rfl
        · rfl
      · rfl
    · rfl
  | _ => intro R s k; rfl

/-- a loop, with its rest in hand -/
def loopC (Bd : LSt → (AEx → LSt → Option R) → Option R) (N : LSt → Option LSt) : Nat → LSt → (AEx → LSt → Option R) → Option R
  | 0, _, _ => none
  | n + 1, s, k => Bd s fun e s' =>
    match e with
    | .normal => (match N s' with | some s'' => loopC Bd N n s'' k | none => none)
    | .exit id => k (.exit id) s'
    | .ret => k .ret s'
    | .panic t m => k (.panic t m) s'

def exC (E : Env) (cf : Cfg) : Code → {R : Type} → LSt → (AEx → LSt → Option R) → Option R
  | .seq a b, _, s, k => exC E cf a s fun e s' =>
    match e with
    | .normal => exC E cf b s' k
    | .exit id => k (.exit id) s'
    | .ret => k .ret s'
    | .panic t m => k (.panic t m) s'
  | .cond c a b, _, s, k =>
    (match s.ev E c with
    | .d .bool v => bif v then exC E cf a (condSet c s true) k else exC E cf b (condSet c s false) k
    | _ => none)
  | .block id c, _, s, k => exC E cf c s fun e s' =>
    match e with
    | .normal => k .normal s'
    | .exit i => bif Nat.beq i id then k .normal s' else k (.exit i) s'
    | .ret => k .ret s'
    | .panic t m => k (.panic t m) s'
  | .loop c, _, s, k =>
    (match nrm cf c s with
    | some s0 => loopC (fun st k' => exC E cf c st k') (nrm cf c) fu s0 k
    | none => none)
  | c, _, s, k => ex E cf c s k

theorem loopC_eq {E : Env} (hE : E.Good) {cf : Cfg} {c : Code} (ih : ∀ {R : Type} (s : LSt) (k : AEx → LSt → Option R), exC E cf c s k = ex E cf c s k) : ∀ (n : Nat) (s : LSt) (k : AEx → LSt → Option R),
    loopC (fun st k' => exC E cf c st k') (nrm cf c) n s k = (loopM (fun st => ex E cf c st fun e s' =>
        match e with
        | .normal => (match nrm cf c s' with | some s'' => some (.next s'') | none => none)
        | .exit id => some (.done ((AEx.exit id, s') : AEx × LSt))
        | .ret => some (.done (AEx.ret, s'))
        | .panic t m => some (.done (AEx.panic t m, s'))) n s).bind fun es => k es.1 es.2
  | 0, _, _ => rfl
  | n + 1, s, k => by
    simp only [loopC, loopM]
    rw [ih, ex_eq hE]
    conv => rhs; rw [ex_eq hE]
    cases ex E cf c s pairK with
    | none => rfl
    | some p =>
      obtain ⟨e, s'⟩ := p
      simp only [Option.bind_some, pk]
      cases e with
      | normal =>
        simp only
        cases nrm cf c s' with
        | none => rfl
        | some s'' => exact loopC_eq hE ih n s'' k
      | exit id => rfl
      | ret => rfl
      | panic t m => rfl

theorem exC_ex {E : Env} (hE : E.Good) {cf : Cfg} : ∀ (c : Code) {R : Type} (s : LSt) (k : AEx → LSt → Option R), exC E cf c s k = ex E cf c s k := by
  intro c
  induction c with
  | seq a b iha ihb =>
    intro R s k
    simp only [exC, ex]
    rw [iha]
    congr 1
    funext e s'
    cases e with
    | normal => exact ihb s' k
    | exit id => rfl
    | ret => rfl
    | panic t m => rfl
  | cond c a b iha ihb =>
    intro R s k
    simp only [exC, ex, iha, ihb]
    rfl
  | block id c ih =>
    intro R s k
    simp only [exC, ex, ih]
    rfl
  | loop c ih =>
    intro R s k
    simp only [exC, ex]
    cases nrm cf c s with
    | none => rfl
    | some s0 => exact loopC_eq hE (fun s k => ih s k) fu s0 k
  | _ => intro R s k; rfl

/-! ### functions -/

def endC (P : Program) (base : Nat) (rv : List ResultVar) (k : AEnd → LHp → Option R) : AEx → LSt → Option R
  | .normal, s => (match resF P s rv with | some rs => fin base s.hp rs (fun rs' h1 => k (.ret rs') h1) | none => none)
  | .ret, s => (match resF P s rv with | some rs => fin base s.hp rs (fun rs' h1 => k (.ret rs') h1) | none => none)
  | .panic t m, s => fin base s.hp [] (fun _ h1 => k (.panic t m) h1)
  | .exit _, _ => none

theorem fin_eq {base : Nat} {hp : LHp} {rs : List AV} {α : Type} {G : List AV → LHp → Option R} {g : List AV → LHp → Option α} {k : α → Option R} (h : ∀ a b, G a b = (g a b).bind k) : fin base hp rs G = (fin base hp rs g).bind k := by
  unfold fin
  simp only [Bool.cond_eq_ite]
  repeat' (first | rfl | exact h _ _ | split)
theorem endC_eq {P : Program} {base : Nat} {rv : List ResultVar} (k : AEnd → LHp → Option R) (e : AEx) (s : LSt) : endC P base rv k e s = (endK P base rv e s).bind fun p => k p.1 p.2 := by
  cases e with
  | exit id => rfl
  | normal =>
    simp only [endC, endK]
    cases resF P s rv with
    | none => rfl
    | some rs => exact fin_eq fun _ _ => rfl
  | ret =>
    simp only [endC, endK]
    cases resF P s rv with
    | none => rfl
    | some rs => exact fin_eq fun _ _ => rfl
  | panic t m =>
    simp only [endC, endK]
    exact fin_eq fun _ _ => rfl

/-- a body of the program, run with its rest in hand -/
def runC (E : Env) (fn : Func) (depth : Nat) (live : List (Nat × List Nat)) (args : List AV) (hs : LHp) (k : AEnd → LHp → Option R) : Option R :=
  match fn.body with
  | none => none
  | some c =>
    bif Nat.ble args.length fn.ntmps && below hs.length hs then
      exC E ⟨fn.ntmps, depth, hs.length, live, true⟩ c ⟨mkFr depth (number 0 args), hs, hs.length⟩ (endC E.P hs.length fn.results.toList k)
    else none

theorem ex_after {E : Env} (hE : E.Good) {cf : Cfg} {c : Code} {s : LSt} {α : Type} {K : AEx → LSt → Option R} {K' : AEx → LSt → Option α} {g : α → Option R} (h : ∀ e s, K e s = (K' e s).bind g) : ex E cf c s K = (ex E cf c s K').bind g := by
  rw [ex_eq hE]
  conv => rhs; rw [ex_eq hE]
  exact bind_c fun p => h p.1 p.2

theorem runC_eq {E : Env} (hE : E.Good) {fn : Func} {depth : Nat} {live : List (Nat × List Nat)} (args : List AV) (hs : LHp) (k : AEnd → LHp → Option R) : runC E fn depth live args hs k = (execB E fn depth live args hs).bind fun p => k p.1 p.2 := by
  unfold runC execB
  cases fn.body with
  | none => rfl
  | some c =>
    simp only [Bool.cond_eq_ite]
    split
    · rw [exC_ex hE]
      exact ex_after hE fun e s => endC_eq k e s
    · rfl

def execFnC (E : Env) (fn : Func) (depth : Nat) (live : List (Nat × List Nat)) : FnE := { run := fun args hs k => runC E fn depth live args hs k }

theorem execFnC_ok {E : Env} (hE : E.Good) (hmix : E.P.follows .mixedOrders = true) {f : FuncId} {fn : Func} {depth : Nat} {live : List (Nat × List Nat)} (hf : E.P.funcs[f]? = some fn) (hcall : ∀ (vs : Array Value) (w : World), (callFunc f vs).run E.P w = .ok (.enter f vs) w)
    (hcode : (match fn.body with | some c => codeIn fn.ntmps c | none => true) = true) (hdep : Nat.blt fn.ntmps (2 ^ depth) = true) : FnE.OK E.P E.gam f (execFnC E fn depth live) := by
  have h := execFn_ok hE hmix hf hcall hcode hdep (live := live)
  refine FnE.OK.of h (fun args hs k => ?_) fun args hs ae hs' e => ?_
  · simp only [execFnC]
    rw [runC_eq hE, runC_eq hE]
    cases execB E fn depth live args hs <;> rfl
  · simp only [execFnC] at e
    rw [runC_eq hE] at e
    exact e

end Go.Vm
namespace Go.Vm
universe u
variable {R : Type}

def runGC (E : Env) (D : DefC) (rest : Code) (args : List AV) (av : AV) (hs : LHp) (k : LHp → Option R) : Option R :=
  bif Nat.ble args.length D.gn.ntmps && below hs.length hs then
    exC E ⟨D.gn.ntmps, D.depth, hs.length, D.live, false⟩ rest ⟨((mkFr D.depth (number 0 args)).set D.t5 av).set D.t2 av, hs, hs.length⟩ fun e s =>
      match e with
      | .normal => fin hs.length s.hp [] (fun _ h1 => k h1)
      | .ret => fin hs.length s.hp [] (fun _ h1 => k h1)
      | _ => none
  else none
theorem runGC_eq {E : Env} (hE : E.Good) {D : DefC} {rest : Code} {args : List AV} {av : AV} {hs : LHp} {k : LHp → Option R} : runGC E D rest args av hs k = (runG E D rest args av hs).bind k := by
  unfold runGC runG
  simp only [Bool.cond_eq_ite]
  split
  · rw [exC_ex hE]
    refine ex_after hE fun e s => ?_
    cases e with
    | normal => exact fin_eq fun _ _ => rfl
    | ret => exact fin_eq fun _ _ => rfl
    | exit i => rfl
    | panic t n => rfl
  · rfl

def endDC (E : Env) (D : DefC) (rest : Code) (base : Nat) (rv : List ResultVar) (caps : List AV) (k : AEnd → LHp → Option R) (e : AEx) (s : LSt) : Option R :=
  match recV e with
  | none => none
  | some av =>
    let L := reach s.hp manyFuel (refsL caps) []
    let σ := sgIn s.hp L 0
    bif σ.good then
      (match rens σ caps with
      | some args =>
        (match renP s.hp σ σ with
        | some hs =>
          runGC E D rest args av hs fun hs' =>
            let nw := sgNew L.length s.nx hs'
            let σ' := sgOut s.hp L 0 ++ nw
            bif σ'.good && freeAll s.hp nw then
              (match renP hs' σ' σ' with
              | some wr =>
                (match resF E.P ⟨s.fr, wr ++ s.hp, s.nx⟩ rv with
                | some rs => fin base (wr ++ s.hp) rs (fun rs' h1 => k (.ret rs') h1)
                | none => none)
              | none => none)
            else none
        | none => none)
      | none => none)
    else none

theorem endDC_eq {E : Env} (hE : E.Good) {D : DefC} {rest : Code} {base : Nat} {rv : List ResultVar} {caps : List AV} (k : AEnd → LHp → Option R) (e : AEx) (s : LSt) : endDC E D rest base rv caps k e s = (endD E D rest base rv caps e s).bind fun p => k p.1 p.2 := by
  unfold endDC endD
  cases recV e with
  | none => rfl
  | some av =>
    simp only
    cases (sgIn s.hp (reach s.hp manyFuel (refsL caps) []) 0).good with
    | false => rfl
    | true =>
      simp only [cond_true]
      cases rens (sgIn s.hp (reach s.hp manyFuel (refsL caps) []) 0) caps with
      | none => rfl
      | some args =>
        simp only
        cases renP s.hp (sgIn s.hp (reach s.hp manyFuel (refsL caps) []) 0) (sgIn s.hp (reach s.hp manyFuel (refsL caps) []) 0) with
        | none => rfl
        | some hs =>
          simp only
          rw [runGC_eq hE]
          cases runG E D rest args av hs with
          | none => rfl
          | some hs' =>
            simp only [Option.bind_some]
            generalize (sgOut s.hp (reach s.hp manyFuel (refsL caps) []) 0 ++ sgNew (reach s.hp manyFuel (refsL caps) []).length s.nx hs') = σ'
            cases Sg.good σ' && freeAll s.hp (sgNew (reach s.hp manyFuel (refsL caps) []).length s.nx hs') with
            | false => rfl
            | true =>
              simp only [cond_true]
              cases renP hs' σ' σ' with
              | none => rfl
              | some wr =>
                simp only
                cases resF E.P ⟨s.fr, wr ++ s.hp, s.nx⟩ rv with
                | none => rfl
                | some rs => exact fin_eq fun _ _ => rfl

def execDC (E : Env) (fn : Func) (depth : Nat) (live : List (Nat × List Nat)) (D : DefC) (args : List AV) (hs : LHp) (k : AEnd → LHp → Option R) : Option R :=
  match fn.body, D.gn.body with
  | some (.seq R0 (.seq _ y)), some (.seq _ rest) =>
    bif Nat.ble args.length fn.ntmps && below hs.length hs then
      exC E ⟨fn.ntmps, depth, hs.length, live, false⟩ R0 ⟨mkFr depth (number 0 args), hs, hs.length⟩ fun e0 s0 =>
        match e0 with
        | .normal =>
          let caps := evs E s0 D.caps
          bif caps.all (boxAt s0.hp) && below s0.nx s0.hp then
            exC E ⟨fn.ntmps, depth, s0.nx, live, false⟩ y (s0.set D.t15 (.fn (.func D.g) [] caps)) (endDC E D rest hs.length fn.results.toList caps k)
          else none
        | _ => none
    else none
  | _, _ => none

theorem execDC_eq {E : Env} (hE : E.Good) {fn : Func} {depth : Nat} {live : List (Nat × List Nat)} {D : DefC} (args : List AV) (hs : LHp) (k : AEnd → LHp → Option R) : execDC E fn depth live D args hs k = (execD E fn depth live D args hs).bind fun p => k p.1 p.2 := by
  unfold execDC execD
  cases fn.body with
  | none => rfl
  | some c1 =>
    cases c1 with
    | seq R0 z =>
      cases z with
      | seq q y =>
        cases D.gn.body with
        | none => rfl
        | some c2 =>
          cases c2 with
          | seq q2 rest =>
            simp only
            cases Nat.ble args.length fn.ntmps && below hs.length hs with
            | false => rfl
            | true =>
              simp only [cond_true]
              rw [exC_ex hE]
              refine ex_after hE fun e0 s0 => ?_
              cases e0 with
              | normal =>
                simp only
                cases (evs E s0 D.caps).all (boxAt s0.hp) && below s0.nx s0.hp with
                | false => rfl
                | true =>
                  simp only [cond_true]
                  rw [exC_ex hE]
                  exact ex_after hE fun e s => endDC_eq hE k e s
              | exit i => rfl
              | ret => rfl
              | panic t n => rfl
          | _ => rfl
      | _ => rfl
    | _ => rfl

/-- the same function, with its rest in hand -/
def execFnDC (E : Env) (fn : Func) (depth : Nat) (live : List (Nat × List Nat)) (D : DefC) : FnE := { run := fun args hs k => execDC E fn depth live D args hs k }
theorem execFnDC_ok {E : Env} (hE : E.Good) {f : FuncId} {fn : Func} {depth : Nat} {live : List (Nat × List Nat)} {D : DefC} {P : Program} {Γ : Nat → Option AV} (h : FnE.OK P Γ f (execFnD E fn depth live D)) : FnE.OK P Γ f (execFnDC E fn depth live D) := by
  refine FnE.OK.of h (fun args hs k => ?_) fun args hs ae hs' e => ?_
  · simp only [execFnDC]
    rw [execDC_eq hE, execDC_eq hE]
    cases execD E fn depth live D args hs <;> rfl
  · simp only [execFnDC] at e
    rw [execDC_eq hE] at e
    exact e

def endRC (base o : Nat) (k : Bool → LHp → Option R) (e : AEx) (s2 : LSt) : Option R :=
  match jmpOf e with
  | some j =>
    (match hget s2.hp o with
    | some (.rc (.loop lc2 fr2 .busy)) => fin base ((o, .rc (.loop lc2 fr2 (staOf j))) :: s2.hp) [] (fun _ h1 => k j.isNone h1)
    | _ => none)
  | none => none
theorem endRC_eq {base o : Nat} (k : Bool → LHp → Option R) (e : AEx) (s : LSt) : endRC base o k e s = (endR base o e s).bind fun p => k p.1 p.2 := by
  unfold endRC endR
  cases jmpOf e with
  | none => rfl
  | some j =>
    simp only
    cases hget s.hp o with
    | none => rfl
    | some ob =>
      cases ob with
      | box v => rfl
      | arr T e m z xs => rfl
      | rc r =>
        cases r with
        | map l => rfl
        | loop lc fr st =>
          cases st with
          | busy => exact fin_eq fun _ _ => rfl
          | _ => rfl

def runRC (E : Env) (live : List (Nat × List Nat)) (o : Nat) (args : List AV) (hs : LHp) (k : Bool → LHp → Option R) : Option R :=
  match hget hs o with
  | some (.rc (.loop lc fr .ready)) =>
    bif below hs.length hs && Nat.beq lc.ps.size args.length && (lc.ps.toList.all (fun t => Nat.blt t lc.n)) && codeIn lc.n lc.assign && codeIn lc.n lc.body && Nat.blt lc.n (2 ^ lc.key) then
      exC E ⟨lc.n, lc.key, hs.length, live, false⟩ lc.assign (setL ⟨mkFr lc.key fr, hs, hs.length⟩ lc.ps.toList args) fun e s1 =>
        match e with
        | .normal =>
          (match hget s1.hp o with
          | some (.rc (.loop lc1 fr1 .ready)) => exC E ⟨lc.n, lc.key, hs.length, live, false⟩ lc.body ⟨s1.fr, (o, .rc (.loop lc1 fr1 .busy)) :: s1.hp, s1.nx⟩ (endRC hs.length o k)
          | _ => none)
        | _ => none
    else none
  | _ => none
theorem runRC_eq {E : Env} (hE : E.Good) {live : List (Nat × List Nat)} {o : Nat} {args : List AV} {hs : LHp} (k : Bool → LHp → Option R) : runRC E live o args hs k = (runR E live o args hs).bind fun p => k p.1 p.2 := by
  unfold runRC runR
  cases hget hs o with
  | none => rfl
  | some ob =>
    cases ob with
    | box v => rfl
    | arr T e m z xs => rfl
    | rc r =>
      cases r with
      | map l => rfl
      | loop lc fr st =>
        cases st with
        | ready =>
          simp only
          cases below hs.length hs && Nat.beq lc.ps.size args.length && (lc.ps.toList.all (fun t => Nat.blt t lc.n)) && codeIn lc.n lc.assign && codeIn lc.n lc.body && Nat.blt lc.n (2 ^ lc.key) with
          | false => rfl
          | true =>
            simp only [cond_true]
            rw [exC_ex hE]
            refine ex_after hE fun e s1 => ?_
            cases e with
            | normal =>
              simp only
              cases hget s1.hp o with
              | none => rfl
              | some ob1 =>
                cases ob1 with
                | box v => rfl
                | arr T e m z xs => rfl
                | rc r1 =>
                  cases r1 with
                  | map l => rfl
                  | loop lc1 fr1 st1 =>
                    cases st1 with
                    | ready =>
                      simp only
                      rw [exC_ex hE]
                      exact ex_after hE fun e s => endRC_eq k e s
                    | _ => rfl
            | exit i => rfl
            | ret => rfl
            | panic t n => rfl
        | _ => rfl
def roundC (E : Env) (live : List (Nat × List Nat)) : RoundE := { run := fun o args hs k => runRC E live o args hs k }
theorem roundC_ok {E : Env} (hE : E.Good) (hmix : E.P.follows .mixedOrders = true) (live : List (Nat × List Nat)) : RoundE.OK E.P E.gam (roundC E live) := by
  have h := roundE_ok hE hmix live
  refine ⟨fun o args hs k => ?_, fun o args hs c hs' e => h.ok o args hs c hs' ?_⟩
  · simp only [roundC]
    rw [runRC_eq hE, runRC_eq hE]
    cases runR E live o args hs <;> rfl
  · simp only [roundC] at e
    rw [runRC_eq hE] at e
    exact e

end Go.Vm
namespace Go.Vm
variable {R : Type}

/-- a loop's rounds -/
def lp (E : Env) (cf : Cfg) (c : Code) (n : Nat) (s : LSt) (k : AEx → LSt → Option R) : Option R := loopC (fun st k' => exC E cf c st k') (nrm cf c) n s k

/-- what runs a loop -/
abbrev Hl := Code → (R : Type) → LSt → (AEx → LSt → Option R) → Option R
def hlp (E : Env) (cf : Cfg) : Hl := fun c _ s k => lp E cf c fu s k

def isIn : List Nat → Nat → Bool
  | [], _ => false
  | a :: l, n => Nat.beq a n || isIn l n
def told (ids : List Nat) (c : Code) : Bool := match firstId c with | some i => isIn ids i | none => false

/-- the executor that leaves some loops to hl -/
def exH (E : Env) (cf : Cfg) (ids : List Nat) (hl : Hl) : Code → {R : Type} → LSt → (AEx → LSt → Option R) → Option R
  | .seq a b, _, s, k => exH E cf ids hl a s fun e s' =>
    match e with
    | .normal => exH E cf ids hl b s' k
    | .exit id => k (.exit id) s'
    | .ret => k .ret s'
    | .panic t m => k (.panic t m) s'
  | .cond c a b, _, s, k =>
    (match s.ev E c with
    | .d .bool v => bif v then exH E cf ids hl a (condSet c s true) k else exH E cf ids hl b (condSet c s false) k
    | _ => none)
  | .block id c, _, s, k => exH E cf ids hl c s fun e s' =>
    match e with
    | .normal => k .normal s'
    | .exit i => bif Nat.beq i id then k .normal s' else k (.exit i) s'
    | .ret => k .ret s'
    | .panic t m => k (.panic t m) s'
  | .loop c, R, s, k =>
    (match nrm cf c s with
    | some s0 => bif told ids c then hl c R s0 k else loopC (fun st k' => exH E cf ids hl c st k') (nrm cf c) fu s0 k
    | none => none)
  | c, _, s, k => ex E cf c s k

theorem exH_exC {E : Env} {cf : Cfg} {ids : List Nat} : ∀ (c : Code) {R : Type} (s : LSt) (k : AEx → LSt → Option R), exH E cf ids (hlp E cf) c s k = exC E cf c s k := by
  intro c
  induction c with
  | seq a b iha ihb =>
    intro R s k
    simp only [exC, exH]
    rw [iha]
    congr 1
    funext e s'
    cases e with
    | normal => exact ihb s' k
    | exit id => rfl
    | ret => rfl
    | panic t m => rfl
  | cond c a b iha ihb =>
    intro R s k
    simp only [exC, exH, iha, ihb]
    rfl
  | block id c ih =>
    intro R s k
    simp only [exC, exH, ih]
    rfl
  | loop c ih =>
    intro R s k
    simp only [exC, exH]
    cases nrm cf c s with
    | none => rfl
    | some s0 =>
      simp only
      cases told ids c with
      | true => rfl
      | false =>
        simp only [cond_false]
        congr 1
        funext st k'
        exact ih st k'
  | _ => intro R s k; rfl

def seqH (E : Env) (cf : Cfg) (ids : List Nat) (hl : Hl) (b : Code) (k : AEx → LSt → Option R) : AEx → LSt → Option R := fun e s' =>
  match e with
  | .normal => exH E cf ids hl b s' k
  | .exit id => k (.exit id) s'
  | .ret => k .ret s'
  | .panic t m => k (.panic t m) s'
def lpH (E : Env) (cf : Cfg) (ids : List Nat) (hl : Hl) (c : Code) (n : Nat) (s : LSt) (k : AEx → LSt → Option R) : Option R := loopC (fun st k' => exH E cf ids hl c st k') (nrm cf c) n s k
theorem lpH_lp {E : Env} {cf : Cfg} {ids : List Nat} {c : Code} {n : Nat} {s : LSt} {k : AEx → LSt → Option R} : lpH E cf ids (hlp E cf) c n s k = lp E cf c n s k := by
  unfold lpH lp
  congr 1
  funext st k'
  exact exH_exC c st k'
def nxtH (E : Env) (cf : Cfg) (ids : List Nat) (hl : Hl) (c : Code) (n : Nat) (k : AEx → LSt → Option R) : AEx → LSt → Option R := fun e s' =>
  match e with
  | .normal => (match nrm cf c s' with | some s'' => lpH E cf ids hl c n s'' k | none => none)
  | .exit id => k (.exit id) s'
  | .ret => k .ret s'
  | .panic t m => k (.panic t m) s'
def runH (E : Env) (fn : Func) (depth : Nat) (live : List (Nat × List Nat)) (ids : List Nat) (hl : Hl) (args : List AV) (hs : LHp) (k : AEnd → LHp → Option R) : Option R :=
  match fn.body with
  | none => none
  | some c =>
    bif Nat.ble args.length fn.ntmps && below hs.length hs then
      exH E ⟨fn.ntmps, depth, hs.length, live, true⟩ ids hl c ⟨mkFr depth (number 0 args), hs, hs.length⟩ (endC E.P hs.length fn.results.toList k)
    else none
theorem runH_runC {E : Env} {fn : Func} {depth : Nat} {live : List (Nat × List Nat)} {ids : List Nat} {args : List AV} {hs : LHp} {k : AEnd → LHp → Option R} : runC E fn depth live args hs k = runH E fn depth live ids (hlp E ⟨fn.ntmps, depth, hs.length, live, true⟩) args hs k := by
  unfold runH runC
  cases fn.body with
  | none => rfl
  | some c => simp only [exH_exC]
abbrev ah : AEnd → LHp → Option (AEnd × LHp) := fun a h => some (a, h)

def orT (a b : Tq) : Tq := match a with | .no => b | t => t
theorem orT_run {a b : Tq} {k : AEnd → LHp → Option R} {r : R} (h : (orT a b).run k = some r) : a.run k = some r ∨ b.run k = some r := by
  cases a with
  | no => exact .inr h
  | leaf _ _ => exact .inl h
  | br _ _ _ => exact .inl h
  | opt _ _ => exact .inl h

/-- two answers of one function -/
theorem treeE_or {P : Program} {Γ : Nat → Option AV} {f : FuncId} {F1 F2 : List AV → LHp → Tq} (h1 : FnE.OK P Γ f (treeE F1)) (h2 : FnE.OK P Γ f (treeE F2)) : FnE.OK P Γ f (treeE fun a h => orT (F1 a h) (F2 a h)) := by
  refine ⟨fun _ _ _ => Tq.eq _ _, fun args hs ae hs' h => ?_⟩
  have h' : (orT (F1 args hs) (F2 args hs)).run ah = some (ae, hs') := h
  rcases orT_run h' with h' | h'
  · exact h1.ok _ _ _ _ h'
  · exact h2.ok _ _ _ _ h'

/-- a pure answer where there is one, else the function itself -/
def treeElse (F : List AV → LHp → Tq) (g : FnE) : FnE := { run := fun args hs k => match F args hs with | .no => g.run args hs k | t => t.run k }
theorem treeElse_ok {P : Program} {Γ : Nat → Option AV} {f : FuncId} {F : List AV → LHp → Tq} {g : FnE} (h1 : FnE.OK P Γ f (treeE F)) (h2 : FnE.OK P Γ f g) : FnE.OK P Γ f (treeElse F g) := by
  refine ⟨fun args hs k => ?_, fun args hs ae hs' h => ?_⟩
  · simp only [treeElse]
    cases F args hs with
    | no => exact h2.eq _ _ _
    | leaf a b => exact Tq.eq _ _
    | br a b c => exact Tq.eq _ _
    | opt a b => exact Tq.eq _ _
  · simp only [treeElse] at h
    have h3 : (F args hs).run ah = some (ae, hs') → FnH P Γ f args (hget hs) (fun ae' h1 => ae' = ae ∧ h1 = hget hs') := fun e => h1.ok args hs ae hs' e
    cases hF : F args hs with
    | no => rw [hF] at h; exact h2.ok _ _ _ _ h
    | leaf a b => rw [hF] at h h3; exact h3 h
    | br a b c => rw [hF] at h h3; exact h3 h
    | opt a b => rw [hF] at h h3; exact h3 h

/-- the same, told of runC -/
theorem FnE.OK.okC {E : Env} {fn : Func} {depth : Nat} {live : List (Nat × List Nat)} {P : Program} {Γ : Nat → Option AV} {f : FuncId} (h : FnE.OK P Γ f (execFnC E fn depth live)) {args : List AV} {hs hs' : LHp} {ae : AEnd} (e : runC E fn depth live args hs ah = some (ae, hs')) : FnH P Γ f args (hget hs) (fun ae' h1 => ae' = ae ∧ h1 = hget hs') := h.ok args hs ae hs' e

theorem treeC_ok {E : Env} (hE : E.Good) (hmix : E.P.follows .mixedOrders = true) {f : FuncId} {fn : Func} {depth : Nat} {live : List (Nat × List Nat)} {F : List AV → LHp → Tq} (hf : E.P.funcs[f]? = some fn) (hcall : ∀ (vs : Array Value) (w : World), (callFunc f vs).run E.P w = .ok (.enter f vs) w)
    (hcode : (match fn.body with | some c => codeIn fn.ntmps c | none => true) = true) (hdep : Nat.blt fn.ntmps (2 ^ depth) = true)
    (eq : ∀ args hs p, (F args hs).run ah = some p → runC E fn depth live args hs ah = some p) : FnE.OK E.P E.gam f (treeE F) :=
  treeE_ok (execFnC_ok hE hmix hf hcall hcode hdep (live := live)) fun args hs p h => eq args hs p h
theorem fnC_ok {E : Env} (hE : E.Good) (hmix : E.P.follows .mixedOrders = true) {f : FuncId} {fn : Func} {depth : Nat} {live : List (Nat × List Nat)} {F : List AV → LHp → Option (AEnd × LHp)} (hf : E.P.funcs[f]? = some fn) (hcall : ∀ (vs : Array Value) (w : World), (callFunc f vs).run E.P w = .ok (.enter f vs) w)
    (hcode : (match fn.body with | some c => codeIn fn.ntmps c | none => true) = true) (hdep : Nat.blt fn.ntmps (2 ^ depth) = true)
    (eq : ∀ args hs p, F args hs = some p → runC E fn depth live args hs ah = some p) : FnE.OK E.P E.gam f (fnE F) :=
  fnE_ok (execFnC_ok hE hmix hf hcall hcode hdep (live := live)) fun args hs p h => eq args hs p h

/-- a run of a function, proved -/
theorem runC_call {E : Env} (hE : E.Good) (hmix : E.P.follows .mixedOrders = true) {f : FuncId} {fn : Func} {depth : Nat} {live : List (Nat × List Nat)} (hf : E.P.funcs[f]? = some fn) (hcall : ∀ (vs : Array Value) (w : World), (callFunc f vs).run E.P w = .ok (.enter f vs) w)
    (hcode : (match fn.body with | some c => codeIn fn.ntmps c | none => true) = true) (hdep : Nat.blt fn.ntmps (2 ^ depth) = true) {args : List AV} {hs hs' : LHp} {ae : AEnd} (h : runC E fn depth live args hs ah = some (ae, hs')) :
    FnH E.P E.gam f args (hget hs) fun ae' h1 => ae' = ae ∧ h1 = hget hs' :=
  (execFnC_ok hE hmix hf hcall hcode hdep (live := live)).ok args hs ae hs' h

/-- rounds, one behind the other -/
theorem lp_to {S : Type} {T : Nat → S → Option R} {f : Nat → S} : ∀ (N m : Nat), N ≤ m → (∀ i, i < N → ∀ n, T (n + 1) (f i) = T n (f (i + 1))) → T m (f 0) = T (m - N) (f N) := by
  intro N
  induction N generalizing f with
  | zero => intro m _ _; rfl
  | succ N ih =>
    intro m hm h
    obtain ⟨m', rfl⟩ : ∃ m', m = m' + 1 := ⟨m - 1, by omega⟩
    rw [h 0 (by omega) m', ih (f := fun i => f (i + 1)) m' (by omega) fun i hi n => h (i + 1) (by omega) n]
    congr 1
    omega

/-- the first element that p holds of -/
theorem find_lp {S α : Type} {T : Nat → S → Option R} {xs : List α} {p : α → Bool} {st : Int → S} {r : Int → α → Option R} {r0 : Int → Option R} (hl : xs.length ≤ maxLen)
    (h : ∀ (i : Int) (n : Nat), T (n + 1) (st i) = bif decide (i < Int.ofNat xs.length) then (idx xs i).bind fun x => bif p x then r i x else T n (st (IntKind.i64.wrap (i + 1))) else r0 i) :
    T fu (st 0) = (match xs.findIdx? p with | some i => (xs[i]?).bind fun x => r (i : Int) x | none => r0 (Int.ofNat xs.length)) := by
  have hm : maxLen = 9223372036854775807 := by decide
  have hf : fu = 18446744073709551616 := rfl
  have step : ∀ i, i < xs.length → (∀ x, xs[i]? = some x → p x = false) → ∀ n, T (n + 1) (st (i : Nat)) = T n (st ((i + 1 : Nat) : Int)) := by
    intro i hi hp n
    obtain ⟨x, hx⟩ : ∃ x, xs[i]? = some x := ⟨xs[i], List.getElem?_eq_getElem hi⟩
    have hidx : idx xs (i : Int) = some x := by unfold idx; rw [if_pos (by omega), Int.toNat_natCast, hx]
    rw [h i, decide_eq_true (show (i : Int) < Int.ofNat xs.length from Int.ofNat_lt.2 hi), hidx]
    simp only [cond_true, Option.bind_some, hp x hx, cond_false]
    rw [wrap64 (by omega) (by omega)]
    rfl
  cases hq : xs.findIdx? p with
  | none =>
    rw [List.findIdx?_eq_none_iff] at hq
    have := lp_to (T := T) (f := fun i : Nat => st (i : Int)) xs.length fu (by omega) (fun i hi => step i hi fun x hx => by simpa using hq x (List.mem_of_getElem? hx))
    refine Eq.trans this ?_
    obtain ⟨m', hm'⟩ : ∃ m', fu - xs.length = m' + 1 := ⟨fu - xs.length - 1, by omega⟩
    rw [hm', h, decide_eq_false (show ¬ ((xs.length : Nat) : Int) < Int.ofNat xs.length from Int.lt_irrefl _)]
    rfl
  | some n =>
    obtain ⟨hn, hp, hnp⟩ := List.findIdx?_eq_some_iff_getElem.1 hq
    have hx : xs[n]? = some xs[n] := List.getElem?_eq_getElem hn
    have := lp_to (T := T) (f := fun i : Nat => st (i : Int)) n fu (by omega) (fun i hi => step i (by omega) fun x hx => by
      have h1 := hnp i hi
      rw [List.getElem?_eq_getElem (by omega)] at hx
      cases hx
      simpa using h1)
    refine Eq.trans this ?_
    obtain ⟨m', hm'⟩ : ∃ m', fu - n = m' + 1 := ⟨fu - n - 1, by omega⟩
    have hidx : idx xs (n : Int) = some xs[n] := by unfold idx; rw [if_pos (by omega), Int.toNat_natCast, hx]
    rw [hm', h, decide_eq_true (show (n : Int) < Int.ofNat xs.length from Int.ofNat_lt.2 hn), hidx]
    simp only [cond_true, Option.bind_some, hp, hx]
end Go.Vm
namespace Go.Vm
open Go.ChangeShapes Go.WideShapes Go.RowKit

mutual
/-- the program's type t is τ -/
def readTy (P : Program) : Ty → TypeId → Bool
  | .int k, t => (match P.underlying t with | some (.int k') => decide (k' = k) | _ => false)
  | .bool, t => (match P.underlying t with | some .bool => true | _ => false)
  | .str, t => (match P.underlying t with | some .string => true | _ => false)
  | .flt _, _ => false
  | .unit, _ => false
  | .slice e, t => (match P.underlying t with | some (.slice u) => Nat.beq (P.cellsOf u) e.size && Nat.ble 1 e.size && readTy P e u | _ => false)
  | .arr _ _, _ => false
  | .pair a b, t => (match P.underlying t with
    | some (.struct fs) => Nat.beq (P.cellsOf t) (a.size + b.size) && (match fs.toList with | f :: r => Nat.beq f.offset 0 && Nat.beq (P.cellsOf f.type) a.size && readTy P a f.type && readFs P b a.size r | [] => false)
    | _ => false)
def readFs (P : Program) : Ty → Nat → List Field → Bool
  | .unit, _, fs => fs.isEmpty
  | .pair a b, off, fs => (match fs with | f :: r => Nat.beq f.offset off && Nat.beq (P.cellsOf f.type) a.size && readTy P a f.type && readFs P b (off + a.size) r | [] => false)
  | _, _, _ => false
end

/-- data as it comes in: numbers within their kinds, lists no longer than can be -/
def WfD : (t : Ty) → t.den → Prop
  | .int k, n => (Lit.int k n).wf = true
  | .bool, _ => True
  | .str, s => s.length ≤ maxLen
  | .flt _, _ => True
  | .slice e, xs => xs.length ≤ maxLen ∧ ∀ x ∈ xs, WfD e x
  | .unit, _ => True
  | .pair a b, x => WfD a x.1 ∧ WfD b x.2
  | .arr _ e, xs => ∀ x ∈ xs, WfD e x

theorem rows_of {α : Type} {w : World} {a : Addr} {sz : Nat} {F : List Value → α → Prop} {G : α → Prop} : ∀ (n i0 : Nat), (∀ i, i0 ≤ i → i < i0 + n → ∃ cs z, w.cells? 0 (a.add (i * sz)) sz = some cs ∧ F cs z ∧ G z) →
    ∃ (cs : List Value) (zs : List α), zs.length = n ∧ RepL F cs zs ∧ (∀ z ∈ zs, G z) ∧ cs.length = n * sz ∧ ∀ i j, i < n → j < sz → w.cell? ((a.add ((i0 + i) * sz)).add j) = cs[i * sz + j]?
  | 0, _, _ => ⟨[], [], rfl, rfl, fun _ h => (by cases h), by simp, fun i j h => (by omega)⟩
  | n + 1, i0, h => by
    obtain ⟨c, z, hc, hf, hg⟩ := h i0 (Nat.le_refl _) (by omega)
    obtain ⟨cs, zs, h1, h2, h3, h4, h5⟩ := rows_of n (i0 + 1) fun i hi hi' => h i (by omega) (by omega)
    obtain ⟨_, hl, hcell⟩ := World.cells?_some hc
    refine ⟨c ++ cs, z :: zs, by simp [h1], ⟨c, cs, rfl, hf, h2⟩, fun y hy => ?_, by rw [List.length_append, hl, h4, Nat.add_mul]; omega, fun i j hi hj => ?_⟩
    · rcases List.mem_cons.1 hy with rfl | hy
      · exact hg
      · exact h3 y hy
    · cases i with
      | zero =>
        rw [Nat.add_zero, hcell j hj, Nat.zero_mul, Nat.zero_add, List.getElem?_append_left (by omega)]
      | succ i =>
        have := h5 i j (by omega) hj
        rw [show i0 + (i + 1) = i0 + 1 + i by omega, this, List.getElem?_append_right (by rw [hl, Nat.add_mul]; omega), hl, Nat.add_mul, Nat.one_mul]
        congr 1
        omega

section
variable {H : Type} {enc : TypeId × Value → H} {P : Program} {w : World} {sp : Nat → Bool} {held : Bool}

theorem cell_lt {a : Addr} {v : Value} (h : w.cell? a = some v) : a.block < w.heap.size := by
  rcases Nat.lt_or_ge a.block w.heap.size with hlt | hge
  · exact hlt
  · simp [World.cell?, Array.getElem?_eq_none hge] at h

mutual
theorem open_ty : ∀ (τ : Ty) (t : TypeId) (fuel : Nat) (cs : List Value) (x : DataW H × List MemPlace), readTy P τ t = true → DataW.trod enc P w 0 sp held fuel t cs = some x →
    ∃ y : τ.den, RepD w (fun b => b < w.heap.size) τ cs y ∧ WfD τ y
  | .int k, t, fuel, cs, x, hr, h => by
    simp only [readTy] at hr
    split at hr
    · rename_i k' hu
      obtain rfl := of_decide_eq_true hr
      obtain ⟨n, rfl, _, hw⟩ := DataW.trod_int hu h
      exact ⟨n, rfl, hw⟩
    · cases hr
  | .bool, t, fuel, cs, x, hr, h => by
    simp only [readTy] at hr
    split at hr
    · rename_i hu
      obtain ⟨n, rfl, _⟩ := DataW.trod_bool hu h
      exact ⟨n, rfl, trivial⟩
    · cases hr
  | .str, t, fuel, cs, x, hr, h => by
    simp only [readTy] at hr
    split at hr
    · rename_i hu
      obtain ⟨s, rfl, _, hw⟩ := DataW.trod_string hu h
      refine ⟨s.data.toList, by simp [RepD], ?_⟩
      simpa [WfD] using hw
    · cases hr
  | .flt _, _, _, _, _, hr, _ => by simp [readTy] at hr
  | .unit, _, _, _, _, hr, _ => by simp [readTy] at hr
  | .arr _ _, _, _, _, _, hr, _ => by simp [readTy] at hr
  | .slice e, t, fuel, cs, x, hr, h => by
    simp only [readTy] at hr
    split at hr
    · rename_i u hu
      simp only [Bool.and_eq_true] at hr
      obtain ⟨⟨h1, h2⟩, h3⟩ := hr
      have h1 := Nat.eq_of_beq_eq_true h1
      have h2 := Nat.le_of_ble_eq_true h2
      rcases DataW.trod_slice hu h with ⟨rfl, _⟩ | ⟨a, len, cap, elems, rest, n, _, rfl, _, _, hlc, hcm, hel, helem, _, _⟩
      · exact ⟨[], ⟨none, 0, rfl, Nat.le_refl _, by simp, fun _ => rfl, rfl⟩, by simp [WfD]⟩
      · have hall : ∀ i, 0 ≤ i → i < 0 + len → ∃ c z, w.cells? 0 (a.add (i * P.cellsOf u)) (P.cellsOf u) = some c ∧ RepD w (fun b => b < w.heap.size) e c z ∧ WfD e z := by
          intro i _ hi
          have := helem i (by omega)
          rw [List.getElem?_eq_getElem (by omega)] at this
          obtain ⟨c, hc, hx⟩ := Option.bind_eq_some_iff.1 this
          obtain ⟨z, h4, h5⟩ := open_ty e u n c _ h3 hx
          exact ⟨c, z, hc, h4, h5⟩
        obtain ⟨c, zs, hz, hrep, hg, hcl, hcell⟩ := rows_of len 0 hall
        refine ⟨zs, ⟨some a, cap, by rw [hz], by omega, hcm, fun h => (by cases h), ?_⟩, by rw [hz]; omega, hg⟩
        cases len with
        | zero => exact .inl (List.eq_nil_of_length_eq_zero hz)
        | succ len =>
          right
          have hc0 := hcell 0 0 (by omega) (by omega)
          rw [List.getElem?_eq_getElem (by rw [hcl, h1]; exact Nat.lt_of_lt_of_le (by omega) (Nat.mul_le_mul (show 1 ≤ len + 1 by omega) h2))] at hc0
          have hspot : a.spot = none := by simpa [Addr.add] using World.cell?_spot hc0
          obtain ⟨b, off, spot⟩ := a
          obtain rfl : spot = none := hspot
          have hb := cell_lt hc0
          simp only [add_plain] at hb
          refine ⟨rfl, hb, c, fun j v hj => ?_, hrep⟩
          have hj' := (List.getElem?_eq_some_iff.1 hj).1
          rw [hcl] at hj'
          have hm := Nat.div_add_mod j (P.cellsOf u)
          have := hcell (j / P.cellsOf u) (j % P.cellsOf u) (Nat.div_lt_of_lt_mul (by rw [Nat.mul_comm]; exact hj')) (Nat.mod_lt _ (by omega))
          rw [add_plain, add_plain, Nat.zero_add, Nat.mul_comm, hm, Nat.add_assoc, hm] at this
          exact this.trans hj
    · cases hr
  | .pair a b, t, fuel, cs, x, hr, h => by
    simp only [readTy] at hr
    split at hr
    · rename_i fs hu
      simp only [Bool.and_eq_true] at hr
      obtain ⟨h1, hr⟩ := hr
      have h1 := Nat.eq_of_beq_eq_true h1
      obtain ⟨xs, n, _, _, hl, hxl, hf⟩ := DataW.trod_struct hu h
      split at hr
      · rename_i f r hfs
        simp only [Bool.and_eq_true] at hr
        obtain ⟨⟨⟨g1, g2⟩, g3⟩, g4⟩ := hr
        have g1 := Nat.eq_of_beq_eq_true g1
        have g2 := Nat.eq_of_beq_eq_true g2
        have hf' : ∀ (i : Nat) (f' : Field), (f :: r)[i]? = some f' → DataW.trod enc P w 0 sp held n f'.type ((cs.drop f'.offset).take (P.cellsOf f'.type)) = xs[i]? := by
          intro i f' hi
          exact hf i f' (by rw [← hfs] at hi; simpa using hi)
        have hlen : xs.length = (f :: r).length := by rw [hxl, ← hfs]; simp
        have hx0 := hf' 0 f rfl
        rw [List.getElem?_eq_getElem (by rw [hlen]; simp)] at hx0
        rw [g1, g2, List.drop_zero] at hx0
        obtain ⟨y1, k1, k2⟩ := open_ty a f.type n _ _ g3 hx0
        obtain ⟨y2, k3, k4⟩ := open_fs b a.size r n cs (by rw [hl, h1]) g4 (fun i f' hi => ⟨xs[i + 1]'(by rw [hlen]; have := (List.getElem?_eq_some_iff.1 hi).1; simp; omega), by rw [hf' (i + 1) f' hi, List.getElem?_eq_getElem]⟩)
        exact ⟨(y1, y2), ⟨_, _, (List.take_append_drop a.size cs).symm, k1, k3⟩, k2, k4⟩
      · cases hr
    · cases hr
theorem open_fs : ∀ (τ : Ty) (off : Nat) (fs : List Field) (n : Nat) (cs : List Value), cs.length = off + τ.size → readFs P τ off fs = true → (∀ (i : Nat) (f : Field), fs[i]? = some f → ∃ x, DataW.trod enc P w 0 sp held n f.type ((cs.drop f.offset).take (P.cellsOf f.type)) = some x) →
    ∃ y : τ.den, RepD w (fun b => b < w.heap.size) τ (cs.drop off) y ∧ WfD τ y
  | .unit, off, fs, n, cs, hl, _, _ => ⟨(), List.drop_eq_nil_of_le (by rw [hl]; exact Nat.le_refl _), trivial⟩
  | .pair a b, off, fs, n, cs, hl, hr, h => by
    simp only [readFs] at hr
    split at hr
    · rename_i f r
      simp only [Bool.and_eq_true] at hr
      obtain ⟨⟨⟨g1, g2⟩, g3⟩, g4⟩ := hr
      have g1 := Nat.eq_of_beq_eq_true g1
      have g2 := Nat.eq_of_beq_eq_true g2
      obtain ⟨x, hx⟩ := h 0 f rfl
      rw [g1, g2] at hx
      obtain ⟨y1, k1, k2⟩ := open_ty a f.type n _ _ g3 hx
      obtain ⟨y2, k3, k4⟩ := open_fs b (off + a.size) r n cs (by rw [hl]; simp [Ty.size, Nat.add_assoc]) g4 (fun i f' hi => h (i + 1) f' hi)
      refine ⟨(y1, y2), ⟨_, _, (List.take_append_drop a.size (cs.drop off)).symm, k1, ?_⟩, k2, k4⟩
      rw [List.drop_drop]
      exact k3
    · cases hr
  | .int _, _, _, _, _, _, hr, _ => by simp [readFs] at hr
  | .bool, _, _, _, _, _, hr, _ => by simp [readFs] at hr
  | .str, _, _, _, _, _, hr, _ => by simp [readFs] at hr
  | .flt _, _, _, _, _, _, hr, _ => by simp [readFs] at hr
  | .slice _, _, _, _, _, _, hr, _ => by simp [readFs] at hr
  | .arr _ _, _, _, _, _, _, hr, _ => by simp [readFs] at hr
end

/-- an argument, opened -/
theorem open_arg {τ : Ty} {t : TypeId} {v : Value} {d : DataW H} {p : List MemPlace} (hr : readTy P τ t = true) (hagg : vIsAgg v = τ.isAgg) (h : DataW.Trod enc P w 0 sp held t v d p) :
    ∃ y : τ.den, RepD w (fun b => b < w.heap.size) τ v.cells.toList y ∧ WfD τ y ∧ RepV w (fun b => b < w.heap.size) (fun _ => .none) (hget []) (.d τ y) v := by
  obtain ⟨fuel, h⟩ := h
  obtain ⟨y, h1, h2⟩ := open_ty τ t fuel _ _ hr h
  exact ⟨y, h1, h2, h1, hagg⟩
end

theorem Kept.same {W W' : World} (h : Kept W W') {p : MemPlace} (hp : p.block < W.heap.size) : W.sameAt W' p := by
  cases p with
  | cell b off => exact h.cell (a := ⟨b, off, none⟩) hp
  | map b => exact h.old b hp

/-- the arguments read behind the call as they did -/
theorem Kept.trodAll {H : Type} {enc : TypeId × Value → H} {P : Program} (hl : laidOutB P = true) {W W' : World} (hk : Kept W W') {sp : Nat → Bool} : ∀ {ts : List TypeId} {vs : List Value} {ds : List (DataW H)} {ps : List MemPlace},
    (∀ t ∈ ts, P.readableRec t = true ∧ t < P.types.size) → (∀ p ∈ ps, p.block < W.heap.size) → (∀ p ∈ ps, sp p.block = true) → DataW.TrodAll enc P W 0 (fun _ => true) true ts vs ds ps → DataW.TrodAll enc P W' 0 sp true ts vs ds ps
  | [], [], [], _, _, _, _, h => h
  | _ :: _, _ :: _, _ :: _, _, ht, hp, hs, ⟨p, q, h1, h2, e⟩ =>
    ⟨p, q, WideElems.Trod_stays hl (ht _ (List.mem_cons.2 (Or.inl rfl))).1 (ht _ (List.mem_cons.2 (Or.inl rfl))).2 h1 (fun x hx => hk.same (hp x (by rw [e]; exact List.mem_append_left _ hx))) (fun x hx => hs x (by rw [e]; exact List.mem_append_left _ hx)),
      Kept.trodAll hl hk (fun t h => ht t (List.mem_cons.2 (Or.inr h))) (fun x hx => hp x (by rw [e]; exact List.mem_append_right _ hx)) (fun x hx => hs x (by rw [e]; exact List.mem_append_right _ hx)) h2, e⟩
  | [], _ :: _, _, _, _, _, _, h => h.elim
  | [], [], _ :: _, _, _, _, _, h => h.elim
  | _ :: _, [], _, _, _, _, _, h => h.elim
  | _ :: _, _ :: _, [], _, _, _, _, h => h.elim

/-- a row's answer: it returns a bool, its arguments read as they did -/
theorem post_kept {H : Type} {enc : TypeId × Value → H} {P : Program} {f : Func} {s : ChangeSpec} {apart fresh handsOn again : Bool} {W W' : World} {args : Array Value} {v : Value} {ds gs : List (DataW H)} {before : List MemPlace}
    (hl : laidOutB P = true) (ht : ∀ t ∈ f.params.toList, P.readableRec t = true ∧ t < P.types.size)
    (hW : DataW.Whole enc P f.params.toList s.vars apart W args.toList ds gs before) (hlt : ∀ p ∈ before, p.block < W.heap.size) (hv0 : s.vars = [])
    (hres : ∀ (b : Nat) (sp : Nat → Bool) (hd : Bool), DataW.TrodAll enc P W' b sp hd f.resultTypes.toList (v.resultList f.resultTypes.size) (s.fn H (ds ++ gs)).results [])
    (hargs : (s.fn H (ds ++ gs)).args = ds) (hvars : (s.fn H (ds ++ gs)).vars = [])
    (hk : Kept W W')
    (hok : ∀ (j : Nat) (t : TypeId) (r : Value), f.resultTypes[j]? = some t → (v.resultList f.resultTypes.size)[j]? = some r → Value.okWide P W' .any 0 t r) :
    s.post enc P f apart fresh handsOn again W args v W' := by
  have hW' := hW
  obtain ⟨p, q, hA, hV, rfl, hfz, hnd⟩ := hW
  obtain ⟨rfl, rfl⟩ : gs = [] ∧ q = [] := by
    rw [hv0] at hV
    cases gs with
    | nil => exact ⟨rfl, hV⟩
    | cons _ _ => exact hV.elim
  simp only [List.append_nil] at hlt hfz hnd
  have hA1 : ∀ sp : Nat → Bool, (∀ b, b < W.heap.size → sp b = true) → DataW.TrodAll enc P W' 0 sp true f.params.toList args.toList ds p :=
    fun sp hs => hk.trodAll hl ht hlt (fun x hx => hs _ (hlt x hx)) hA
  have hV1 : ∀ sp : Nat → Bool, DataW.TrodVars enc P W' sp s.vars ([] : List (DataW H)) [] := by
    intro sp
    rw [hv0]
    rfl
  refine ⟨ds, [], p ++ [], [], p, [], hW', hres _ _ _, ?_, ?_, hk.frame _, fun _ => ⟨hok, (s.fn H (ds ++ [])).results ++ ds, [], p, ⟨p, [], ?_, hV1 _, by simp, ?_, ?_⟩, fun x hx _ => by simpa using hx⟩⟩
  · rw [hargs]
    exact hA1 _ fun b hb => by simpa using hb
  · rw [hvars]
    exact hV1 _
  · exact trodAll_append (hA1 _ fun _ _ => rfl) (hres _ _ _)
  · intro b off hb
    rw [hk.frozen (hlt _ hb)]
    exact hfz b off hb
  · intro ha
    exact hnd ha

end Go.Vm
set_option maxRecDepth 100000
set_option maxHeartbeats 4000000
namespace Go.Proofs.XGT
open Go.Vm Go Go.RowKit Go.Lib
abbrev Y0 : Ty := .pair (.int .i64) (.pair (.slice (.int .i64)) (.pair (.slice (.int .i64)) .unit))
abbrev Y1 : Ty := .pair .str (.pair (.int .i64) (.pair (.int .i64) (.pair (.int .i64) (.pair .str (.pair Y0 (.pair (.slice (.int .i64)) .unit))))))
abbrev Y2 : Ty := .pair .str (.pair .str (.pair (.slice .str) (.pair .str (.pair (.slice Y1) .unit))))
abbrev Y3 : Ty := .pair .str (.pair (.int .i64) (.pair (.slice (.int .i64)) .unit))
abbrev Y4 : Ty := .pair (.int .i64) (.pair (.int .i64) (.pair (.int .i64) (.pair (.int .i64) (.pair (.arr 2 (.int .i64)) (.pair (.arr 2 (.int .i64)) (.pair (.int .i64) (.pair (.int .i64) (.pair (.int .i64) (.pair (.int .i64) .unit)))))))))
abbrev Y5 : Ty := .pair (.int .i64) (.pair (.int .i64) .unit)
abbrev Y6 : Ty := .pair (.int .i64) (.pair (.int .i64) (.pair (.slice (.int .i64)) .unit))
abbrev Y7 : Ty := .pair Y2 (.pair (.slice Y3) .unit)
abbrev Y8 : Ty := .pair (.int .i64) (.pair (.int .i64) (.pair .str .unit))
abbrev Y9 : Ty := .pair (.int .u8) (.pair (.int .u8) .unit)
theorem ty2 : TyGood Tryz.prog 2 (.int .i64) := ⟨⟨_, _, Tryz.type2, rfl, by decide, rfl, rfl⟩, ⟨_, Tryz.underlying2, rfl⟩⟩
theorem ty3 : TyGood Tryz.prog 3 (.int .i64) := ⟨⟨_, _, Tryz.type3, rfl, by decide, rfl, rfl⟩, ⟨_, Tryz.underlying3, rfl⟩⟩
theorem ty9 : TyGood Tryz.prog 9 .str := ⟨⟨_, _, Tryz.type9, rfl, by decide, rfl, rfl⟩, ⟨_, Tryz.underlying9, rfl⟩⟩
theorem ty22 : TyGood Tryz.prog 22 (.slice (.int .i64)) := ⟨⟨_, _, Tryz.type22, rfl, by decide, rfl, rfl⟩, ⟨_, Tryz.underlying22, rfl⟩⟩
theorem ty23 : TyGood Tryz.prog 23 (.slice (.int .i64)) := ⟨⟨_, _, Tryz.type23, rfl, by decide, rfl, rfl⟩, ⟨_, Tryz.underlying23, rfl⟩⟩
theorem ty25 : TyGood Tryz.prog 25 Y0 := ⟨⟨_, _, Tryz.type25, rfl, by decide, rfl, rfl⟩, ⟨_, Tryz.underlying25, rfl⟩⟩
theorem ty29 : TyGood Tryz.prog 29 (.int .i64) := ⟨⟨_, _, Tryz.type29, rfl, by decide, rfl, rfl⟩, ⟨_, Tryz.underlying29, rfl⟩⟩
theorem ty35 : TyGood Tryz.prog 35 Y2 := ⟨⟨_, _, Tryz.type35, rfl, by decide, rfl, rfl⟩, ⟨_, Tryz.underlying35, rfl⟩⟩
theorem ty37 : TyGood Tryz.prog 37 Y1 := ⟨⟨_, _, Tryz.type37, rfl, by decide, rfl, rfl⟩, ⟨_, Tryz.underlying37, rfl⟩⟩
theorem ty49 : TyGood Tryz.prog 49 Y3 := ⟨⟨_, _, Tryz.type49, rfl, by decide, rfl, rfl⟩, ⟨_, Tryz.underlying49, rfl⟩⟩
theorem ty55 : TyGood Tryz.prog 55 (.arr 2 (.int .i64)) := ⟨⟨_, _, Tryz.type55, rfl, by decide, rfl, rfl⟩, ⟨_, Tryz.underlying55, rfl⟩⟩
theorem ty57 : TyGood Tryz.prog 57 Y4 := ⟨⟨_, _, Tryz.type57, rfl, by decide, rfl, rfl⟩, ⟨_, Tryz.underlying57, rfl⟩⟩
theorem ty68 : TyGood Tryz.prog 68 Y0 := ⟨⟨_, _, Tryz.type68, rfl, by decide, rfl, rfl⟩, ⟨_, Tryz.underlying68, rfl⟩⟩
theorem ty91 : TyGood Tryz.prog 91 Y5 := ⟨⟨_, _, Tryz.type91, rfl, by decide, rfl, rfl⟩, ⟨_, Tryz.underlying91, rfl⟩⟩
theorem ty108 : TyGood Tryz.prog 108 Y6 := ⟨⟨_, _, Tryz.type108, rfl, by decide, rfl, rfl⟩, ⟨_, Tryz.underlying108, rfl⟩⟩
theorem ty129 : TyGood Tryz.prog 129 Y7 := ⟨⟨_, _, Tryz.type129, rfl, by decide, rfl, rfl⟩, ⟨_, Tryz.underlying129, rfl⟩⟩
theorem ty154 : TyGood Tryz.prog 154 Y8 := ⟨⟨_, _, Tryz.type154, rfl, by decide, rfl, rfl⟩, ⟨_, Tryz.underlying154, rfl⟩⟩
theorem ty196 : TyGood Tryz.prog 196 (.arr 10 .str) := ⟨⟨_, _, Tryz.type196, rfl, by decide, rfl, rfl⟩, ⟨_, Tryz.underlying196, rfl⟩⟩
theorem ty223 : TyGood Tryz.prog 223 (.int .u64) := ⟨⟨_, _, Tryz.type223, rfl, by decide, rfl, rfl⟩, ⟨_, Tryz.underlying223, rfl⟩⟩
theorem ty242 : TyGood Tryz.prog 242 Y9 := ⟨⟨_, _, Tryz.type242, rfl, by decide, rfl, rfl⟩, ⟨_, Tryz.underlying242, rfl⟩⟩
def tys : List (Nat × Ty) := [(2, (.int .i64)), (3, (.int .i64)), (9, .str), (22, (.slice (.int .i64))), (23, (.slice (.int .i64))), (25, Y0), (29, (.int .i64)), (35, Y2), (37, Y1), (49, Y3), (55, (.arr 2 (.int .i64))), (57, Y4), (68, Y0), (91, Y5), (108, Y6), (129, Y7), (154, Y8), (196, (.arr 10 .str)), (223, (.int .u64)), (242, Y9)]
theorem tys_ok : AllGood Tryz.prog tys := ⟨ty2, ty3, ty9, ty22, ty23, ty25, ty29, ty35, ty37, ty49, ty55, ty57, ty68, ty91, ty108, ty129, ty154, ty196, ty223, ty242, trivial⟩
def ones : List (List UInt8) := [[73, 100, 101, 110, 116, 105, 116, 121], [78, 101, 103], [65, 98, 115], [78, 111, 116], [82, 101, 108, 117], [83, 113, 114, 116], [70, 108, 111, 111, 114], [69, 120, 112], [83, 105, 103, 109, 111, 105, 100], [84, 97, 110, 104]]
def gam : List (Nat × AV) := [(1, .ip (.arr 10 .str) ones)]
noncomputable def e0 : Env := ⟨Tryz.prog, gam, tys, [], [], none⟩
theorem e0_good : e0.Good := ⟨⟨allGood tys_ok⟩, gam_free (by decide), (fun _ h => nomatch h), (fun _ h => nomatch h), (fun _ h => nomatch h)⟩
theorem hmix : Tryz.prog.follows .mixedOrders = true := rfl
/-- mandrel/mandrellaw13.small -/
noncomputable def x15 : FnE := execFnC e0 Tryz.f15 5 [(2, [0, 3])]
theorem x15_ok : FnE.OK Tryz.prog (Env.gam e0) 15 x15 := execFnC_ok e0_good hmix Tryz.func15 Tryz.call15 (by decide +kernel) rfl
noncomputable def e1 : Env := e0.add 15 x15
theorem e1_good : e1.Good := Env.Good.add e0_good x15_ok
/-- mandrel/num.Check -/
noncomputable def x34 : FnE := execFnC e1 Tryz.f34 6 []
theorem x34_ok : FnE.OK Tryz.prog (Env.gam e0) 34 x34 := execFnC_ok e1_good hmix Tryz.func34 Tryz.call34 (by decide +kernel) rfl
noncomputable def e2 : Env := e1.add 34 x34
theorem e2_good : e2.Good := Env.Good.add e1_good x34_ok
/-- mandrel/pb.Check$1 -/
noncomputable def x88 : FnE := execFnC e2 Tryz.f88 4 []
theorem x88_ok : FnE.OK Tryz.prog (Env.gam e0) 88 x88 := execFnC_ok e2_good hmix Tryz.func88 Tryz.call88 (by decide +kernel) rfl
noncomputable def e3 : Env := e2.add 88 x88
theorem e3_good : e3.Good := Env.Good.add e2_good x88_ok
/-- mandrel/shape.Count$1 -/
noncomputable def x98 : FnE := execFnC e3 Tryz.f98 3 []
theorem x98_ok : FnE.OK Tryz.prog (Env.gam e0) 98 x98 := execFnC_ok e3_good hmix Tryz.func98 Tryz.call98 (by decide +kernel) rfl
noncomputable def e4 : Env := e3.add 98 x98
theorem e4_good : e4.Good := Env.Good.add e3_good x98_ok
/-- mandrel/view.fine$1 -/
noncomputable def x106 : FnE := execFnC e4 Tryz.f106 4 []
theorem x106_ok : FnE.OK Tryz.prog (Env.gam e0) 106 x106 := execFnC_ok e4_good hmix Tryz.func106 Tryz.call106 (by decide +kernel) rfl
noncomputable def e5 : Env := e4.add 106 x106
theorem e5_good : e5.Good := Env.Good.add e4_good x106_ok
/-- mandrel/infer.rule -/
noncomputable def x92 : FnE := execFnC e5 Tryz.f92 3 []
theorem x92_ok : FnE.OK Tryz.prog (Env.gam e0) 92 x92 := execFnC_ok e5_good hmix Tryz.func92 Tryz.call92 (by decide +kernel) rfl
noncomputable def e6 : Env := e5.add 92 x92
theorem e6_good : e6.Good := Env.Good.add e5_good x92_ok
/-- (mandrel/infer.maker).window$1 -/
noncomputable def x184 : FnE := execFnC e6 Tryz.f184 6 []
theorem x184_ok : FnE.OK Tryz.prog (Env.gam e0) 184 x184 := execFnC_ok e6_good hmix Tryz.func184 Tryz.call184 (by decide +kernel) rfl
noncomputable def e7 : Env := e6.add 184 x184
theorem e7_good : e7.Good := Env.Good.add e6_good x184_ok
/-- slices.IndexFunc[[]int,int] -/
noncomputable def x128 : FnE := execFnC e7 Tryz.f128 5 [(2, [0, 1, 7, 8])]
theorem x128_ok : FnE.OK Tryz.prog (Env.gam e0) 128 x128 := execFnC_ok e7_good hmix Tryz.func128 Tryz.call128 (by decide +kernel) rfl
noncomputable def e8 : Env := e7.add 128 x128
theorem e8_good : e8.Good := Env.Good.add e7_good x128_ok
/-- slices.ContainsFunc[[]int,int] -/
noncomputable def x97 : FnE := execFnC e8 Tryz.f97 4 []
theorem x97_ok : FnE.OK Tryz.prog (Env.gam e0) 97 x97 := execFnC_ok e8_good hmix Tryz.func97 Tryz.call97 (by decide +kernel) rfl
noncomputable def e9 : Env := e8.add 97 x97
theorem e9_good : e9.Good := Env.Good.add e8_good x97_ok
/-- mandrel/shape.Count -/
noncomputable def x57 : FnE := execFnC e9 Tryz.f57 5 [(7, [4, 12, 13, 14])]
theorem x57_ok : FnE.OK Tryz.prog (Env.gam e0) 57 x57 := execFnC_ok e9_good hmix Tryz.func57 Tryz.call57 (by decide +kernel) rfl
noncomputable def e10 : Env := e9.add 57 x57
theorem e10_good : e10.Good := Env.Good.add e9_good x57_ok
/-- mandrel/pb.typed -/
noncomputable def x86 : FnE := execFnC e10 Tryz.f86 3 []
theorem x86_ok : FnE.OK Tryz.prog (Env.gam e0) 86 x86 := execFnC_ok e10_good hmix Tryz.func86 Tryz.call86 (by decide +kernel) rfl
noncomputable def e11 : Env := e10.add 86 x86
theorem e11_good : e11.Good := Env.Good.add e10_good x86_ok
/-- slices.IndexFunc[[]int64,int64] -/
noncomputable def x112 : FnE := execFnC e11 Tryz.f112 5 [(2, [0, 1, 7, 8])]
theorem x112_ok : FnE.OK Tryz.prog (Env.gam e0) 112 x112 := execFnC_ok e11_good hmix Tryz.func112 Tryz.call112 (by decide +kernel) rfl
noncomputable def e12 : Env := e11.add 112 x112
theorem e12_good : e12.Good := Env.Good.add e11_good x112_ok
/-- slices.ContainsFunc[[]int64,int64] -/
noncomputable def x87 : FnE := execFnC e12 Tryz.f87 4 []
theorem x87_ok : FnE.OK Tryz.prog (Env.gam e0) 87 x87 := execFnC_ok e12_good hmix Tryz.func87 Tryz.call87 (by decide +kernel) rfl
noncomputable def e13 : Env := e12.add 87 x87
theorem e13_good : e13.Good := Env.Good.add e12_good x87_ok
/-- mandrel/pb.Check -/
noncomputable def x54 : FnE := execFnC e13 Tryz.f54 5 []
theorem x54_ok : FnE.OK Tryz.prog (Env.gam e0) 54 x54 := execFnC_ok e13_good hmix Tryz.func54 Tryz.call54 (by decide +kernel) rfl
noncomputable def e14 : Env := e13.add 54 x54
theorem e14_good : e14.Good := Env.Good.add e13_good x54_ok
/-- mandrel/infer.Out$1 -/
noncomputable def x89 : FnE := execFnC e14 Tryz.f89 5 []
theorem x89_ok : FnE.OK Tryz.prog (Env.gam e0) 89 x89 := execFnC_ok e14_good hmix Tryz.func89 Tryz.call89 (by decide +kernel) rfl
noncomputable def e15 : Env := e14.add 89 x89
theorem e15_good : e15.Good := Env.Good.add e14_good x89_ok
/-- mandrel/infer.good -/
noncomputable def x90 : FnE := execFnC e15 Tryz.f90 3 []
theorem x90_ok : FnE.OK Tryz.prog (Env.gam e0) 90 x90 := execFnC_ok e15_good hmix Tryz.func90 Tryz.call90 (by decide +kernel) rfl
noncomputable def e16 : Env := e15.add 90 x90
theorem e16_good : e16.Good := Env.Good.add e15_good x90_ok
/-- mandrel/move.Do$1 -/
noncomputable def x53 : FnE := execFnC e16 Tryz.f53 3 []
theorem x53_ok : FnE.OK Tryz.prog (Env.gam e0) 53 x53 := execFnC_ok e16_good hmix Tryz.func53 Tryz.call53 (by decide +kernel) rfl
noncomputable def e17 : Env := e16.add 53 x53
theorem e17_good : e17.Good := Env.Good.add e16_good x53_ok
/-- mandrel/schema.named$1 -/
noncomputable def x129 : FnE := execFnC e17 Tryz.f129 4 []
theorem x129_ok : FnE.OK Tryz.prog (Env.gam e0) 129 x129 := execFnC_ok e17_good hmix Tryz.func129 Tryz.call129 (by decide +kernel) rfl
noncomputable def e18 : Env := e17.add 129 x129
theorem e18_good : e18.Good := Env.Good.add e17_good x129_ok
/-- mandrel/schema.attrs$2 -/
noncomputable def x146 : FnE := execFnC e18 Tryz.f146 4 []
theorem x146_ok : FnE.OK Tryz.prog (Env.gam e0) 146 x146 := execFnC_ok e18_good hmix Tryz.func146 Tryz.call146 (by decide +kernel) rfl
noncomputable def e19 : Env := e18.add 146 x146
theorem e19_good : e19.Good := Env.Good.add e18_good x146_ok
/-- (mandrel/infer.maker).constant$1 -/
noncomputable def x151 : FnE := execFnC e19 Tryz.f151 3 []
theorem x151_ok : FnE.OK Tryz.prog (Env.gam e0) 151 x151 := execFnC_ok e19_good hmix Tryz.func151 Tryz.call151 (by decide +kernel) rfl
noncomputable def e20 : Env := e19.add 151 x151
theorem e20_good : e20.Good := Env.Good.add e19_good x151_ok
/-- slices.IndexFunc[[]mandrel/api.Attr,mandrel/api.Attr] -/
noncomputable def x52 : FnE := execFnC e20 Tryz.f52 5 [(2, [0, 1, 7, 8])]
theorem x52_ok : FnE.OK Tryz.prog (Env.gam e0) 52 x52 := execFnC_ok e20_good hmix Tryz.func52 Tryz.call52 (by decide +kernel) rfl
noncomputable def e21 : Env := e20.add 52 x52
theorem e21_good : e21.Good := Env.Good.add e20_good x52_ok
/-- mandrel/schema.named -/
noncomputable def x100 : FnE := execFnC e21 Tryz.f100 3 []
theorem x100_ok : FnE.OK Tryz.prog (Env.gam e0) 100 x100 := execFnC_ok e21_good hmix Tryz.func100 Tryz.call100 (by decide +kernel) rfl
noncomputable def e22 : Env := e21.add 100 x100
theorem e22_good : e22.Good := Env.Good.add e21_good x100_ok
/-- mandrel/schema.find -/
noncomputable def x61 : FnE := execFnC e22 Tryz.f61 5 []
theorem x61_ok : FnE.OK Tryz.prog (Env.gam e0) 61 x61 := execFnC_ok e22_good hmix Tryz.func61 Tryz.call61 (by decide +kernel) rfl
noncomputable def e23 : Env := e22.add 61 x61
theorem e23_good : e23.Good := Env.Good.add e22_good x61_ok
/-- mandrel/schema.ofOne -/
noncomputable def x138 : FnE := execFnC e23 Tryz.f138 4 [(2, [0, 5, 6])]
theorem x138_ok : FnE.OK Tryz.prog (Env.gam e0) 138 x138 := execFnC_ok e23_good hmix Tryz.func138 Tryz.call138 (by decide +kernel) rfl
noncomputable def e24 : Env := e23.add 138 x138
theorem e24_good : e24.Good := Env.Good.add e23_good x138_ok
/-- mandrel/schema.ruleOf -/
noncomputable def x113 : FnE := execFnC e24 Tryz.f113 7 []
theorem x113_ok : FnE.OK Tryz.prog (Env.gam e0) 113 x113 := execFnC_ok e24_good hmix Tryz.func113 Tryz.call113 (by decide +kernel) rfl
noncomputable def e25 : Env := e24.add 113 x113
theorem e25_good : e25.Good := Env.Good.add e24_good x113_ok
/-- slices.Index[[]string,string] -/
noncomputable def x139 : FnE := execFnC e25 Tryz.f139 5 [(2, [0, 1, 7, 8])]
theorem x139_ok : FnE.OK Tryz.prog (Env.gam e0) 139 x139 := execFnC_ok e25_good hmix Tryz.func139 Tryz.call139 (by decide +kernel) rfl
noncomputable def e26 : Env := e25.add 139 x139
theorem e26_good : e26.Good := Env.Good.add e25_good x139_ok
/-- slices.Contains[[]string,string] -/
noncomputable def x114 : FnE := execFnC e26 Tryz.f114 4 []
theorem x114_ok : FnE.OK Tryz.prog (Env.gam e0) 114 x114 := execFnC_ok e26_good hmix Tryz.func114 Tryz.call114 (by decide +kernel) rfl
noncomputable def e27 : Env := e26.add 114 x114
theorem e27_good : e27.Good := Env.Good.add e26_good x114_ok
/-- internal/stringslite.HasPrefix -/
noncomputable def x174 : FnE := execFnC e27 Tryz.f174 5 []
theorem x174_ok : FnE.OK Tryz.prog (Env.gam e0) 174 x174 := execFnC_ok e27_good hmix Tryz.func174 Tryz.call174 (by decide +kernel) rfl
noncomputable def e28 : Env := e27.add 174 x174
theorem e28_good : e28.Good := Env.Good.add e27_good x174_ok
/-- strings.HasPrefix -/
noncomputable def x143 : FnE := execFnC e28 Tryz.f143 4 []
theorem x143_ok : FnE.OK Tryz.prog (Env.gam e0) 143 x143 := execFnC_ok e28_good hmix Tryz.func143 Tryz.call143 (by decide +kernel) rfl
noncomputable def e29 : Env := e28.add 143 x143
theorem e29_good : e29.Good := Env.Good.add e28_good x143_ok
/-- mandrel/schema.attrs$1 -/
noncomputable def x142 : FnE := execFnC e29 Tryz.f142 4 []
theorem x142_ok : FnE.OK Tryz.prog (Env.gam e0) 142 x142 := execFnC_ok e29_good hmix Tryz.func142 Tryz.call142 (by decide +kernel) rfl
noncomputable def e30 : Env := e29.add 142 x142
theorem e30_good : e30.Good := Env.Good.add e29_good x142_ok
/-- unicode/utf8.RuneCountInString -/
noncomputable def x219 : FnE := execFnC e30 Tryz.f219 4 [(2, [2, 4])]
theorem x219_ok : FnE.OK Tryz.prog (Env.gam e0) 219 x219 := execFnC_ok e30_good hmix Tryz.func219 Tryz.call219 (by decide +kernel) rfl
noncomputable def e31 : Env := e30.add 219 x219
theorem e31_good : e31.Good := Env.Good.add e30_good x219_ok
/-- unicode/utf8.decodeRuneInStringSlow -/
noncomputable def x231 : FnE := execFnC e31 Tryz.f231 7 []
theorem x231_ok : FnE.OK Tryz.prog (Env.gam e0) 231 x231 := execFnC_ok e31_good hmix Tryz.func231 Tryz.call231 (by decide +kernel) rfl
noncomputable def e32 : Env := e31.add 231 x231
theorem e32_good : e32.Good := Env.Good.add e31_good x231_ok
/-- unicode/utf8.DecodeRuneInString -/
noncomputable def x220 : FnE := execFnC e32 Tryz.f220 5 []
theorem x220_ok : FnE.OK Tryz.prog (Env.gam e0) 220 x220 := execFnC_ok e32_good hmix Tryz.func220 Tryz.call220 (by decide +kernel) rfl
noncomputable def e33 : Env := e32.add 220 x220
theorem e33_good : e33.Good := Env.Good.add e32_good x220_ok
/-- strings.explode -/
noncomputable def x203 : FnE := execFnC e33 Tryz.f203 6 [(6, [0, 1, 6, 7])]
theorem x203_ok : FnE.OK Tryz.prog (Env.gam e0) 203 x203 := execFnC_ok e33_good hmix Tryz.func203 Tryz.call203 (by decide +kernel) rfl
noncomputable def e34 : Env := e33.add 203 x203
theorem e34_good : e34.Good := Env.Good.add e33_good x203_ok
noncomputable def e35 : Env := e34.addX 232 xIndexByte
theorem e35_good : e35.Good := Env.Good.addX e34_good (xIndexByte_ok Tryz.func232 rfl (by decide +kernel) (by kernel_rfl) (by kernel_rfl))
/-- internal/stringslite.IndexByte -/
noncomputable def x222 : FnE := execFnC e35 Tryz.f222 4 []
theorem x222_ok : FnE.OK Tryz.prog (Env.gam e0) 222 x222 := execFnC_ok e35_good hmix Tryz.func222 Tryz.call222 (by decide +kernel) rfl
noncomputable def e36 : Env := e35.add 222 x222
theorem e36_good : e36.Good := Env.Good.add e35_good x222_ok
/-- internal/bytealg.Cutover -/
noncomputable def x224 : FnE := execFnC e36 Tryz.f224 3 []
theorem x224_ok : FnE.OK Tryz.prog (Env.gam e0) 224 x224 := execFnC_ok e36_good hmix Tryz.func224 Tryz.call224 (by decide +kernel) rfl
noncomputable def e37 : Env := e36.add 224 x224
theorem e37_good : e37.Good := Env.Good.add e36_good x224_ok
/-- internal/bytealg.hashStr[string] -/
noncomputable def x233 : FnE := execFnC e37 Tryz.f233 6 [(3, [0, 4, 5]), (8, [4, 6, 7, 8])]
theorem x233_ok : FnE.OK Tryz.prog (Env.gam e0) 233 x233 := execFnC_ok e37_good hmix Tryz.func233 Tryz.call233 (by decide +kernel) rfl
noncomputable def e38 : Env := e37.add 233 x233
theorem e38_good : e38.Good := Env.Good.add e37_good x233_ok
/-- internal/bytealg.IndexRabinKarp[string] -/
noncomputable def x225 : FnE := execFnC e38 Tryz.f225 7 [(5, [0, 1, 5, 6, 7, 8, 9]), (11, [0, 1, 5, 6, 7, 8, 10])]
theorem x225_ok : FnE.OK Tryz.prog (Env.gam e0) 225 x225 := execFnC_ok e38_good hmix Tryz.func225 Tryz.call225 (by decide +kernel) rfl
noncomputable def e39 : Env := e38.add 225 x225
theorem e39_good : e39.Good := Env.Good.add e38_good x225_ok
/-- internal/stringslite.Index -/
noncomputable def x206 : FnE := execFnC e39 Tryz.f206 8 [(15, [0, 1, 5, 6, 7, 8, 9, 10])]
theorem x206_ok : FnE.OK Tryz.prog (Env.gam e0) 206 x206 := execFnC_ok e39_good hmix Tryz.func206 Tryz.call206 (by decide +kernel) rfl
noncomputable def e40 : Env := e39.add 206 x206
theorem e40_good : e40.Good := Env.Good.add e39_good x206_ok
/-- strings.Index -/
noncomputable def x205 : FnE := execFnC e40 Tryz.f205 4 []
theorem x205_ok : FnE.OK Tryz.prog (Env.gam e0) 205 x205 := execFnC_ok e40_good hmix Tryz.func205 Tryz.call205 (by decide +kernel) rfl
noncomputable def e41 : Env := e40.add 205 x205
theorem e41_good : e41.Good := Env.Good.add e40_good x205_ok
noncomputable def e42 : Env := e41.addX 221 xCount
theorem e42_good : e42.Good := Env.Good.addX e41_good (xCount_ok Tryz.func221 rfl (by decide +kernel) (by kernel_rfl) (by kernel_rfl))
/-- strings.Count -/
noncomputable def x204 : FnE := execFnC e42 Tryz.f204 6 [(6, [0, 1, 5])]
theorem x204_ok : FnE.OK Tryz.prog (Env.gam e0) 204 x204 := execFnC_ok e42_good hmix Tryz.func204 Tryz.call204 (by decide +kernel) rfl
noncomputable def e43 : Env := e42.add 204 x204
theorem e43_good : e43.Good := Env.Good.add e42_good x204_ok
/-- strings.genSplit -/
noncomputable def x173 : FnE := execFnC e43 Tryz.f173 7 [(11, [0, 1, 2, 3, 9, 10])]
theorem x173_ok : FnE.OK Tryz.prog (Env.gam e0) 173 x173 := execFnC_ok e43_good hmix Tryz.func173 Tryz.call173 (by decide +kernel) rfl
noncomputable def e44 : Env := e43.add 173 x173
theorem e44_good : e44.Good := Env.Good.add e43_good x173_ok
/-- strings.Split -/
noncomputable def x140 : FnE := execFnC e44 Tryz.f140 4 []
theorem x140_ok : FnE.OK Tryz.prog (Env.gam e0) 140 x140 := execFnC_ok e44_good hmix Tryz.func140 Tryz.call140 (by decide +kernel) rfl
noncomputable def e45 : Env := e44.add 140 x140
theorem e45_good : e45.Good := Env.Good.add e44_good x140_ok
/-- mandrel/schema.Then$1 -/
noncomputable def x150 : FnE := execFnC e45 Tryz.f150 3 []
theorem x150_ok : FnE.OK Tryz.prog (Env.gam e0) 150 x150 := execFnC_ok e45_good hmix Tryz.func150 Tryz.call150 (by decide +kernel) rfl
noncomputable def e46 : Env := e45.add 150 x150
theorem e46_good : e46.Good := Env.Good.add e45_good x150_ok
/-- slices.IndexFunc[[]string,string] -/
noncomputable def x141 : FnE := execFnC e46 Tryz.f141 5 [(2, [0, 1, 7, 8])]
theorem x141_ok : FnE.OK Tryz.prog (Env.gam e0) 141 x141 := execFnC_ok e46_good hmix Tryz.func141 Tryz.call141 (by decide +kernel) rfl
noncomputable def e47 : Env := e46.add 141 x141
theorem e47_good : e47.Good := Env.Good.add e46_good x141_ok
/-- mandrel/schema.kindOf -/
noncomputable def x144 : FnE := execFnC e47 Tryz.f144 4 []
theorem x144_ok : FnE.OK Tryz.prog (Env.gam e0) 144 x144 := execFnC_ok e47_good hmix Tryz.func144 Tryz.call144 (by decide +kernel) rfl
noncomputable def e48 : Env := e47.add 144 x144
theorem e48_good : e48.Good := Env.Good.add e47_good x144_ok
/-- slices.ContainsFunc[[]mandrel/api.Attr,mandrel/api.Attr] -/
noncomputable def x145 : FnE := execFnC e48 Tryz.f145 4 []
theorem x145_ok : FnE.OK Tryz.prog (Env.gam e0) 145 x145 := execFnC_ok e48_good hmix Tryz.func145 Tryz.call145 (by decide +kernel) rfl
noncomputable def e49 : Env := e48.add 145 x145
theorem e49_good : e49.Good := Env.Good.add e48_good x145_ok
/-- internal/stringslite.Cut -/
noncomputable def x175 : FnE := execFnC e49 Tryz.f175 5 []
theorem x175_ok : FnE.OK Tryz.prog (Env.gam e0) 175 x175 := execFnC_ok e49_good hmix Tryz.func175 Tryz.call175 (by decide +kernel) rfl
noncomputable def e50 : Env := e49.add 175 x175
theorem e50_good : e50.Good := Env.Good.add e49_good x175_ok
/-- strings.Cut -/
noncomputable def x147 : FnE := execFnC e50 Tryz.f147 4 []
theorem x147_ok : FnE.OK Tryz.prog (Env.gam e0) 147 x147 := execFnC_ok e50_good hmix Tryz.func147 Tryz.call147 (by decide +kernel) rfl
noncomputable def e51 : Env := e50.add 147 x147
theorem e51_good : e51.Good := Env.Good.add e50_good x147_ok
/-- internal/stringslite.HasSuffix -/
noncomputable def x176 : FnE := execFnC e51 Tryz.f176 5 []
theorem x176_ok : FnE.OK Tryz.prog (Env.gam e0) 176 x176 := execFnC_ok e51_good hmix Tryz.func176 Tryz.call176 (by decide +kernel) rfl
noncomputable def e52 : Env := e51.add 176 x176
theorem e52_good : e52.Good := Env.Good.add e51_good x176_ok
/-- strings.HasSuffix -/
noncomputable def x148 : FnE := execFnC e52 Tryz.f148 4 []
theorem x148_ok : FnE.OK Tryz.prog (Env.gam e0) 148 x148 := execFnC_ok e52_good hmix Tryz.func148 Tryz.call148 (by decide +kernel) rfl
noncomputable def e53 : Env := e52.add 148 x148
theorem e53_good : e53.Good := Env.Good.add e52_good x148_ok
/-- mandrel/schema.attrs -/
noncomputable def x115 : FnE := execFnC e53 Tryz.f115 7 [(3, [2, 5, 20, 21, 22]), (14, [2, 63, 64, 65])]
theorem x115_ok : FnE.OK Tryz.prog (Env.gam e0) 115 x115 := execFnC_ok e53_good hmix Tryz.func115 Tryz.call115 (by decide +kernel) rfl
noncomputable def e54 : Env := e53.add 115 x115
theorem e54_good : e54.Good := Env.Good.add e53_good x115_ok
/-- slices.ContainsFunc[[]string,string] -/
noncomputable def x149 : FnE := execFnC e54 Tryz.f149 4 []
theorem x149_ok : FnE.OK Tryz.prog (Env.gam e0) 149 x149 := execFnC_ok e54_good hmix Tryz.func149 Tryz.call149 (by decide +kernel) rfl
noncomputable def e55 : Env := e54.add 149 x149
theorem e55_good : e55.Good := Env.Good.add e54_good x149_ok
/-- mandrel/schema.Then -/
noncomputable def x116 : FnE := execFnC e55 Tryz.f116 5 []
theorem x116_ok : FnE.OK Tryz.prog (Env.gam e0) 116 x116 := execFnC_ok e55_good hmix Tryz.func116 Tryz.call116 (by decide +kernel) rfl
noncomputable def e56 : Env := e55.add 116 x116
theorem e56_good : e56.Good := Env.Good.add e55_good x116_ok
/-- mandrel/schema.Check -/
noncomputable def x91 : FnE := execFnC e56 Tryz.f91 7 []
theorem x91_ok : FnE.OK Tryz.prog (Env.gam e0) 91 x91 := execFnC_ok e56_good hmix Tryz.func91 Tryz.call91 (by decide +kernel) rfl
noncomputable def e57 : Env := e56.add 91 x91
theorem e57_good : e57.Good := Env.Good.add e56_good x91_ok
/-- mandrel/num.whole -/
noncomputable def x35 : FnE := execFnC e57 Tryz.f35 4 []
theorem x35_ok : FnE.OK Tryz.prog (Env.gam e0) 35 x35 := execFnC_ok e57_good hmix Tryz.func35 Tryz.call35 (by decide +kernel) rfl
noncomputable def e58 : Env := e57.add 35 x35
theorem e58_good : e58.Good := Env.Good.add e57_good x35_ok
/-- mandrel/num.cut -/
noncomputable def x64 : FnE := execFnC e58 Tryz.f64 4 []
theorem x64_ok : FnE.OK Tryz.prog (Env.gam e0) 64 x64 := execFnC_ok e58_good hmix Tryz.func64 Tryz.call64 (by decide +kernel) rfl
noncomputable def e59 : Env := e58.add 64 x64
theorem e59_good : e59.Good := Env.Good.add e58_good x64_ok
/-- mandrel/num.flag -/
noncomputable def x65 : FnE := execFnC e59 Tryz.f65 3 []
theorem x65_ok : FnE.OK Tryz.prog (Env.gam e0) 65 x65 := execFnC_ok e59_good hmix Tryz.func65 Tryz.call65 (by decide +kernel) rfl
noncomputable def e60 : Env := e59.add 65 x65
theorem e60_good : e60.Good := Env.Good.add e59_good x65_ok
/-- mandrel/num.wholes -/
noncomputable def x36 : FnE := execFnC e60 Tryz.f36 7 []
theorem x36_ok : FnE.OK Tryz.prog (Env.gam e0) 36 x36 := execFnC_ok e60_good hmix Tryz.func36 Tryz.call36 (by decide +kernel) rfl
noncomputable def e61 : Env := e60.add 36 x36
theorem e61_good : e61.Good := Env.Good.add e60_good x36_ok
noncomputable def e62 : Env := e61.addX 102 (xFrombits .f32 .u32)
theorem e62_good : e62.Good := Env.Good.addX e61_good (xFrombits_ok (row := Extern.MathFloatBits.float32frombits) (fun _ => rfl) Tryz.func102 rfl (by decide +kernel) (by kernel_rfl) (by kernel_rfl))
/-- mandrel/num.number -/
noncomputable def x66 : FnE := execFnC e62 Tryz.f66 3 []
theorem x66_ok : FnE.OK Tryz.prog (Env.gam e0) 66 x66 := execFnC_ok e62_good hmix Tryz.func66 Tryz.call66 (by decide +kernel) rfl
noncomputable def e63 : Env := e62.add 66 x66
theorem e63_good : e63.Good := Env.Good.add e62_good x66_ok
noncomputable def e64 : Env := e63.addX 103 (xBits .f32 .u32)
theorem e64_good : e64.Good := Env.Good.addX e63_good (xBits_ok (row := Extern.MathFloatBits.float32bits) (fun _ => rfl) Tryz.func103 rfl (by decide +kernel) (by kernel_rfl) (by kernel_rfl))
/-- mandrel/num.bitsOf -/
noncomputable def x67 : FnE := execFnC e64 Tryz.f67 4 []
theorem x67_ok : FnE.OK Tryz.prog (Env.gam e0) 67 x67 := execFnC_ok e64_good hmix Tryz.func67 Tryz.call67 (by decide +kernel) rfl
noncomputable def e65 : Env := e64.add 67 x67
theorem e65_good : e65.Good := Env.Good.add e64_good x67_ok
/-- mandrel/num.floats -/
noncomputable def x37 : FnE := execFnC e65 Tryz.f37 7 []
theorem x37_ok : FnE.OK Tryz.prog (Env.gam e0) 37 x37 := execFnC_ok e65_good hmix Tryz.func37 Tryz.call37 (by decide +kernel) rfl
noncomputable def e66 : Env := e65.add 37 x37
theorem e66_good : e66.Good := Env.Good.add e65_good x37_ok
/-- mandrel/num.Binary -/
noncomputable def x19 : FnE := execFnC e66 Tryz.f19 7 []
theorem x19_ok : FnE.OK Tryz.prog (Env.gam e0) 19 x19 := execFnC_ok e66_good hmix Tryz.func19 Tryz.call19 (by decide +kernel) rfl
noncomputable def e67 : Env := e66.add 19 x19
theorem e67_good : e67.Good := Env.Good.add e66_good x19_ok
/-- mandrel/schema.Int -/
noncomputable def x56 : FnE := execFnC e67 Tryz.f56 5 []
theorem x56_ok : FnE.OK Tryz.prog (Env.gam e0) 56 x56 := execFnC_ok e67_good hmix Tryz.func56 Tryz.call56 (by decide +kernel) rfl
noncomputable def e68 : Env := e67.add 56 x56
theorem e68_good : e68.Good := Env.Good.add e67_good x56_ok
/-- (mandrel/infer.maker).constant -/
noncomputable def x117 : FnE := execFnC e68 Tryz.f117 4 []
theorem x117_ok : FnE.OK Tryz.prog (Env.gam e0) 117 x117 := execFnC_ok e68_good hmix Tryz.func117 Tryz.call117 (by decide +kernel) rfl
noncomputable def e69 : Env := e68.add 117 x117
theorem e69_good : e69.Good := Env.Good.add e68_good x117_ok
/-- math.Sqrt -/
noncomputable def x177 : FnE := execFnC e69 Tryz.f177 3 []
theorem x177_ok : FnE.OK Tryz.prog (Env.gam e0) 177 x177 := execFnC_ok e69_good hmix Tryz.func177 Tryz.call177 (by decide +kernel) rfl
noncomputable def e70 : Env := e69.add 177 x177
theorem e70_good : e70.Good := Env.Good.add e69_good x177_ok
/-- math.IsNaN -/
noncomputable def x226 : FnE := execFnC e70 Tryz.f226 3 []
theorem x226_ok : FnE.OK Tryz.prog (Env.gam e0) 226 x226 := execFnC_ok e70_good hmix Tryz.func226 Tryz.call226 (by decide +kernel) rfl
noncomputable def e71 : Env := e70.add 226 x226
theorem e71_good : e71.Good := Env.Good.add e70_good x226_ok
noncomputable def e72 : Env := e71.addX 210 (xFrombits .f64 .u64)
theorem e72_good : e72.Good := Env.Good.addX e71_good (xFrombits_ok (row := Extern.MathFloatBits.float64frombits) (fun _ => rfl) Tryz.func210 rfl (by decide +kernel) (by kernel_rfl) (by kernel_rfl))
noncomputable def e73 : Env := e72.addX 237 (xBits .f64 .u64)
theorem e73_good : e73.Good := Env.Good.addX e72_good (xBits_ok (row := Extern.MathFloatBits.float64bits) (fun _ => rfl) Tryz.func237 rfl (by decide +kernel) (by kernel_rfl) (by kernel_rfl))
/-- math.Abs -/
noncomputable def x234 : FnE := execFnC e73 Tryz.f234 3 []
theorem x234_ok : FnE.OK Tryz.prog (Env.gam e0) 234 x234 := execFnC_ok e73_good hmix Tryz.func234 Tryz.call234 (by decide +kernel) rfl
noncomputable def e74 : Env := e73.add 234 x234
theorem e74_good : e74.Good := Env.Good.add e73_good x234_ok
/-- math.IsInf -/
noncomputable def x227 : FnE := execFnC e74 Tryz.f227 4 []
theorem x227_ok : FnE.OK Tryz.prog (Env.gam e0) 227 x227 := execFnC_ok e74_good hmix Tryz.func227 Tryz.call227 (by decide +kernel) rfl
noncomputable def e75 : Env := e74.add 227 x227
theorem e75_good : e75.Good := Env.Good.add e74_good x227_ok
/-- math.Copysign -/
noncomputable def x236 : FnE := execFnC e75 Tryz.f236 4 []
theorem x236_ok : FnE.OK Tryz.prog (Env.gam e0) 236 x236 := execFnC_ok e75_good hmix Tryz.func236 Tryz.call236 (by decide +kernel) rfl
noncomputable def e76 : Env := e75.add 236 x236
theorem e76_good : e76.Good := Env.Good.add e75_good x236_ok
/-- math.trunc -/
noncomputable def x239 : FnE := execFnC e76 Tryz.f239 5 []
theorem x239_ok : FnE.OK Tryz.prog (Env.gam e0) 239 x239 := execFnC_ok e76_good hmix Tryz.func239 Tryz.call239 (by decide +kernel) rfl
noncomputable def e77 : Env := e76.add 239 x239
theorem e77_good : e77.Good := Env.Good.add e76_good x239_ok
/-- math.Trunc -/
noncomputable def x235 : FnE := execFnC e77 Tryz.f235 3 []
theorem x235_ok : FnE.OK Tryz.prog (Env.gam e0) 235 x235 := execFnC_ok e77_good hmix Tryz.func235 Tryz.call235 (by decide +kernel) rfl
noncomputable def e78 : Env := e77.add 235 x235
theorem e78_good : e78.Good := Env.Good.add e77_good x235_ok
/-- math.Modf -/
noncomputable def x228 : FnE := execFnC e78 Tryz.f228 4 []
theorem x228_ok : FnE.OK Tryz.prog (Env.gam e0) 228 x228 := execFnC_ok e78_good hmix Tryz.func228 Tryz.call228 (by decide +kernel) rfl
noncomputable def e79 : Env := e78.add 228 x228
theorem e79_good : e79.Good := Env.Good.add e78_good x228_ok
/-- math.floor -/
noncomputable def x209 : FnE := execFnC e79 Tryz.f209 6 []
theorem x209_ok : FnE.OK Tryz.prog (Env.gam e0) 209 x209 := execFnC_ok e79_good hmix Tryz.func209 Tryz.call209 (by decide +kernel) rfl
noncomputable def e80 : Env := e79.add 209 x209
theorem e80_good : e80.Good := Env.Good.add e79_good x209_ok
/-- math.Floor -/
noncomputable def x178 : FnE := execFnC e80 Tryz.f178 3 []
theorem x178_ok : FnE.OK Tryz.prog (Env.gam e0) 178 x178 := execFnC_ok e80_good hmix Tryz.func178 Tryz.call178 (by decide +kernel) rfl
noncomputable def e81 : Env := e80.add 178 x178
theorem e81_good : e81.Good := Env.Good.add e80_good x178_ok
/-- mandrel/num.exp -/
noncomputable def x179 : FnE := execFnC e81 Tryz.f179 6 [(12, [4, 5, 6, 7])]
theorem x179_ok : FnE.OK Tryz.prog (Env.gam e0) 179 x179 := execFnC_ok e81_good hmix Tryz.func179 Tryz.call179 (by decide +kernel) rfl
noncomputable def e82 : Env := e81.add 179 x179
theorem e82_good : e82.Good := Env.Good.add e81_good x179_ok
/-- mandrel/num.sigmoid -/
noncomputable def x180 : FnE := execFnC e82 Tryz.f180 4 []
theorem x180_ok : FnE.OK Tryz.prog (Env.gam e0) 180 x180 := execFnC_ok e82_good hmix Tryz.func180 Tryz.call180 (by decide +kernel) rfl
noncomputable def e83 : Env := e82.add 180 x180
theorem e83_good : e83.Good := Env.Good.add e82_good x180_ok
/-- mandrel/num.tanh -/
noncomputable def x181 : FnE := execFnC e83 Tryz.f181 6 []
theorem x181_ok : FnE.OK Tryz.prog (Env.gam e0) 181 x181 := execFnC_ok e83_good hmix Tryz.func181 Tryz.call181 (by decide +kernel) rfl
noncomputable def e84 : Env := e83.add 181 x181
theorem e84_good : e84.Good := Env.Good.add e83_good x181_ok
/-- mandrel/num.ofFloat -/
noncomputable def x152 : FnE := execFnC e84 Tryz.f152 6 []
theorem x152_ok : FnE.OK Tryz.prog (Env.gam e0) 152 x152 := execFnC_ok e84_good hmix Tryz.func152 Tryz.call152 (by decide +kernel) rfl
noncomputable def e85 : Env := e84.add 152 x152
theorem e85_good : e85.Good := Env.Good.add e84_good x152_ok
/-- mandrel/num.Unary -/
noncomputable def x118 : FnE := execFnC e85 Tryz.f118 7 []
theorem x118_ok : FnE.OK Tryz.prog (Env.gam e0) 118 x118 := execFnC_ok e85_good hmix Tryz.func118 Tryz.call118 (by decide +kernel) rfl
noncomputable def e86 : Env := e85.add 118 x118
theorem e86_good : e86.Good := Env.Good.add e85_good x118_ok
/-- (mandrel/infer.maker).alike$1 -/
noncomputable def x154 : FnE := execFnC e86 Tryz.f154 4 []
theorem x154_ok : FnE.OK Tryz.prog (Env.gam e0) 154 x154 := execFnC_ok e86_good hmix Tryz.func154 Tryz.call154 (by decide +kernel) rfl
noncomputable def e87 : Env := e86.add 154 x154
theorem e87_good : e87.Good := Env.Good.add e86_good x154_ok
/-- slices.IndexFunc[[]mandrel/api.Value,mandrel/api.Value] -/
noncomputable def x182 : FnE := execFnC e87 Tryz.f182 5 [(2, [0, 1, 7, 8])]
theorem x182_ok : FnE.OK Tryz.prog (Env.gam e0) 182 x182 := execFnC_ok e87_good hmix Tryz.func182 Tryz.call182 (by decide +kernel) rfl
noncomputable def e88 : Env := e87.add 182 x182
theorem e88_good : e88.Good := Env.Good.add e87_good x182_ok
/-- slices.ContainsFunc[[]mandrel/api.Value,mandrel/api.Value] -/
noncomputable def x153 : FnE := execFnC e88 Tryz.f153 4 []
theorem x153_ok : FnE.OK Tryz.prog (Env.gam e0) 153 x153 := execFnC_ok e88_good hmix Tryz.func153 Tryz.call153 (by decide +kernel) rfl
noncomputable def e89 : Env := e88.add 153 x153
theorem e89_good : e89.Good := Env.Good.add e88_good x153_ok
/-- (mandrel/infer.maker).alike -/
noncomputable def x119 : FnE := execFnC e89 Tryz.f119 4 []
theorem x119_ok : FnE.OK Tryz.prog (Env.gam e0) 119 x119 := execFnC_ok e89_good hmix Tryz.func119 Tryz.call119 (by decide +kernel) rfl
noncomputable def e90 : Env := e89.add 119 x119
theorem e90_good : e90.Good := Env.Good.add e89_good x119_ok
/-- (mandrel/infer.maker).typ -/
noncomputable def x93 : FnE := execFnC e90 Tryz.f93 8 []
theorem x93_ok : FnE.OK Tryz.prog (Env.gam e0) 93 x93 := execFnC_ok e90_good hmix Tryz.func93 Tryz.call93 (by decide +kernel) rfl
noncomputable def e91 : Env := e90.add 93 x93
theorem e91_good : e91.Good := Env.Good.add e90_good x93_ok
/-- slices.Equal[[]int,int] -/
noncomputable def x77 : FnE := execFnC e91 Tryz.f77 5 [(4, [0, 1, 12, 13])]
theorem x77_ok : FnE.OK Tryz.prog (Env.gam e0) 77 x77 := execFnC_ok e91_good hmix Tryz.func77 Tryz.call77 (by decide +kernel) rfl
noncomputable def e92 : Env := e91.add 77 x77
theorem e92_good : e92.Good := Env.Good.add e91_good x77_ok
/-- slices.Clone[[]int,int] -/
theorem cn96 (w : World) (c : Nat) : Calls Tryz.prog 96 #[.slice none 0 c] w fun e w' => e = .returned (.slice none 0 0) ∧ w' = w := by
  have q : ∀ (w : World) (a : Option Addr) (n c n' c' : Nat), (binOp .eql 22 (.slice a n c) (.slice none n' c')).run Tryz.prog w = .ok (.bool a.isNone) w := fun w a n c n' c' => Go.Lib.run_eql_slice_nil w _ _ a n c n' c' Tryz.underlying22
  go_enter Tryz.func96, Tryz.ntmps96
  go_wp2
  go_ret
  exact ⟨rfl, rfl⟩
theorem ce96 (w : World) (a : Addr) (c : Nat) : Calls Tryz.prog 96 #[.slice (some a) 0 c] w fun e w' => (∃ b, e = .returned (.slice b 0 0)) ∧ ∃ o, w' = w.alloc o := by
  have q : ∀ (w : World) (a : Option Addr) (n c n' c' : Nat), (binOp .eql 22 (.slice a n c) (.slice none n' c')).run Tryz.prog w = .ok (.bool a.isNone) w := fun w a n c n' c' => Go.Lib.run_eql_slice_nil w _ _ a n c n' c' Tryz.underlying22
  go_enter Tryz.func96, Tryz.ntmps96
  go_wp2
  go_ret
  exact ⟨⟨_, rfl⟩, ⟨_, rfl⟩⟩
noncomputable def b96 : FnE := execFnC e92 Tryz.f96 4 []
noncomputable def x96 : FnE := cloneE b96
theorem x96_ok : FnE.OK Tryz.prog (Env.gam e0) 96 x96 := cloneE_ok (execFnC_ok e92_good hmix Tryz.func96 Tryz.call96 (by decide +kernel) rfl) Tryz.call96 cn96 ce96
noncomputable def e93 : Env := e92.add 96 x96
theorem e93_good : e93.Good := Env.Good.add e92_good x96_ok
/-- mandrel/shape.Broadcast -/
noncomputable def x76 : FnE := execFnC e93 Tryz.f76 7 [(2, [0, 1, 18, 19, 20]), (13, [1, 10, 11, 48, 49])]
theorem x76_ok : FnE.OK Tryz.prog (Env.gam e0) 76 x76 := execFnC_ok e93_good hmix Tryz.func76 Tryz.call76 (by decide +kernel) rfl
noncomputable def e94 : Env := e93.add 76 x76
theorem e94_good : e94.Good := Env.Good.add e93_good x76_ok
/-- mandrel/infer.spread -/
noncomputable def x120 : FnE := execFnC e94 Tryz.f120 5 []
theorem x120_ok : FnE.OK Tryz.prog (Env.gam e0) 120 x120 := execFnC_ok e94_good hmix Tryz.func120 Tryz.call120 (by decide +kernel) rfl
noncomputable def e95 : Env := e94.add 120 x120
theorem e95_good : e95.Good := Env.Good.add e94_good x120_ok
/-- mandrel/infer.axis -/
noncomputable def x121 : FnE := execFnC e95 Tryz.f121 5 []
theorem x121_ok : FnE.OK Tryz.prog (Env.gam e0) 121 x121 := execFnC_ok e95_good hmix Tryz.func121 Tryz.call121 (by decide +kernel) rfl
noncomputable def e96 : Env := e95.add 121 x121
theorem e96_good : e96.Good := Env.Good.add e95_good x121_ok
/-- slices.Clone[[]int64,int64] -/
theorem cn43 (w : World) (c : Nat) : Calls Tryz.prog 43 #[.slice none 0 c] w fun e w' => e = .returned (.slice none 0 0) ∧ w' = w := by
  have q : ∀ (w : World) (a : Option Addr) (n c n' c' : Nat), (binOp .eql 23 (.slice a n c) (.slice none n' c')).run Tryz.prog w = .ok (.bool a.isNone) w := fun w a n c n' c' => Go.Lib.run_eql_slice_nil w _ _ a n c n' c' Tryz.underlying23
  go_enter Tryz.func43, Tryz.ntmps43
  go_wp2
  go_ret
  exact ⟨rfl, rfl⟩
theorem ce43 (w : World) (a : Addr) (c : Nat) : Calls Tryz.prog 43 #[.slice (some a) 0 c] w fun e w' => (∃ b, e = .returned (.slice b 0 0)) ∧ ∃ o, w' = w.alloc o := by
  have q : ∀ (w : World) (a : Option Addr) (n c n' c' : Nat), (binOp .eql 23 (.slice a n c) (.slice none n' c')).run Tryz.prog w = .ok (.bool a.isNone) w := fun w a n c n' c' => Go.Lib.run_eql_slice_nil w _ _ a n c n' c' Tryz.underlying23
  go_enter Tryz.func43, Tryz.ntmps43
  go_wp2
  go_ret
  exact ⟨⟨_, rfl⟩, ⟨_, rfl⟩⟩
noncomputable def b43 : FnE := execFnC e96 Tryz.f43 4 []
noncomputable def x43 : FnE := cloneE b43
theorem x43_ok : FnE.OK Tryz.prog (Env.gam e0) 43 x43 := cloneE_ok (execFnC_ok e96_good hmix Tryz.func43 Tryz.call43 (by decide +kernel) rfl) Tryz.call43 cn43 ce43
noncomputable def e97 : Env := e96.add 43 x43
theorem e97_good : e97.Good := Env.Good.add e96_good x43_ok
/-- mandrel/schema.Ints -/
noncomputable def x30 : FnE := execFnC e97 Tryz.f30 5 []
theorem x30_ok : FnE.OK Tryz.prog (Env.gam e0) 30 x30 := execFnC_ok e97_good hmix Tryz.func30 Tryz.call30 (by decide +kernel) rfl
noncomputable def e98 : Env := e97.add 30 x30
theorem e98_good : e98.Good := Env.Good.add e97_good x30_ok
/-- mandrel/infer.upTo -/
noncomputable def x155 : FnE := execFnC e98 Tryz.f155 4 [(3, [3, 5, 6])]
theorem x155_ok : FnE.OK Tryz.prog (Env.gam e0) 155 x155 := execFnC_ok e98_good hmix Tryz.func155 Tryz.call155 (by decide +kernel) rfl
noncomputable def e99 : Env := e98.add 155 x155
theorem e99_good : e99.Good := Env.Good.add e98_good x155_ok
/-- slices.Index[[]int,int] -/
noncomputable def x183 : FnE := execFnC e99 Tryz.f183 5 [(2, [0, 1, 7, 8])]
theorem x183_ok : FnE.OK Tryz.prog (Env.gam e0) 183 x183 := execFnC_ok e99_good hmix Tryz.func183 Tryz.call183 (by decide +kernel) rfl
noncomputable def e100 : Env := e99.add 183 x183
theorem e100_good : e100.Good := Env.Good.add e99_good x183_ok
/-- slices.Contains[[]int,int] -/
noncomputable def x157 : FnE := execFnC e100 Tryz.f157 4 []
theorem x157_ok : FnE.OK Tryz.prog (Env.gam e0) 157 x157 := execFnC_ok e100_good hmix Tryz.func157 Tryz.call157 (by decide +kernel) rfl
noncomputable def e101 : Env := e100.add 157 x157
theorem e101_good : e101.Good := Env.Good.add e100_good x157_ok
/-- mandrel/infer.axes -/
noncomputable def x156 : FnE := execFnC e101 Tryz.f156 5 [(3, [1, 5, 9, 10, 11])]
theorem x156_ok : FnE.OK Tryz.prog (Env.gam e0) 156 x156 := execFnC_ok e101_good hmix Tryz.func156 Tryz.call156 (by decide +kernel) rfl
noncomputable def e102 : Env := e101.add 156 x156
theorem e102_good : e102.Good := Env.Good.add e101_good x156_ok
/-- (mandrel/infer.maker).reduced -/
noncomputable def x122 : FnE := execFnC e102 Tryz.f122 6 [(9, [6, 7, 8, 39, 40, 41])]
theorem x122_ok : FnE.OK Tryz.prog (Env.gam e0) 122 x122 := execFnC_ok e102_good hmix Tryz.func122 Tryz.call122 (by decide +kernel) rfl
noncomputable def e103 : Env := e102.add 122 x122
theorem e103_good : e103.Good := Env.Good.add e102_good x122_ok
/-- mandrel/infer.product -/
noncomputable def x123 : FnE := execFnC e103 Tryz.f123 6 []
theorem x123_ok : FnE.OK Tryz.prog (Env.gam e0) 123 x123 := execFnC_ok e103_good hmix Tryz.func123 Tryz.call123 (by decide +kernel) rfl
noncomputable def e104 : Env := e103.add 123 x123
theorem e104_good : e104.Good := Env.Good.add e103_good x123_ok
/-- (mandrel/infer.maker).turned -/
noncomputable def x158 : FnE := execFnC e104 Tryz.f158 6 []
theorem x158_ok : FnE.OK Tryz.prog (Env.gam e0) 158 x158 := execFnC_ok e104_good hmix Tryz.func158 Tryz.call158 (by decide +kernel) rfl
noncomputable def e105 : Env := e104.add 158 x158
theorem e105_good : e105.Good := Env.Good.add e104_good x158_ok
/-- (mandrel/infer.maker).gemm -/
noncomputable def x124 : FnE := execFnC e105 Tryz.f124 6 []
theorem x124_ok : FnE.OK Tryz.prog (Env.gam e0) 124 x124 := execFnC_ok e105_good hmix Tryz.func124 Tryz.call124 (by decide +kernel) rfl
noncomputable def e106 : Env := e105.add 124 x124
theorem e106_good : e106.Good := Env.Good.add e105_good x124_ok
/-- mandrel/infer.numbers -/
noncomputable def x160 : FnE := execFnC e106 Tryz.f160 6 [(4, [3, 4, 5, 14, 21, 22, 23])]
theorem x160_ok : FnE.OK Tryz.prog (Env.gam e0) 160 x160 := execFnC_ok e106_good hmix Tryz.func160 Tryz.call160 (by decide +kernel) rfl
noncomputable def e107 : Env := e106.add 160 x160
theorem e107_good : e107.Good := Env.Good.add e106_good x160_ok
/-- (mandrel/infer.maker).window -/
noncomputable def x159 : FnE := execFnC e107 Tryz.f159 5 []
theorem x159_ok : FnE.OK Tryz.prog (Env.gam e0) 159 x159 := execFnC_ok e107_good hmix Tryz.func159 Tryz.call159 (by decide +kernel) rfl
noncomputable def e108 : Env := e107.add 159 x159
theorem e108_good : e108.Good := Env.Good.add e107_good x159_ok
/-- (mandrel/infer.maker).conv -/
noncomputable def x125 : FnE := execFnC e108 Tryz.f125 7 []
theorem x125_ok : FnE.OK Tryz.prog (Env.gam e0) 125 x125 := execFnC_ok e108_good hmix Tryz.func125 Tryz.call125 (by decide +kernel) rfl
noncomputable def e109 : Env := e108.add 125 x125
theorem e109_good : e109.Good := Env.Good.add e108_good x125_ok
/-- (mandrel/infer.maker).pool -/
noncomputable def x126 : FnE := execFnC e109 Tryz.f126 6 [(5, [1, 5, 6, 7, 26, 27, 28])]
theorem x126_ok : FnE.OK Tryz.prog (Env.gam e0) 126 x126 := execFnC_ok e109_good hmix Tryz.func126 Tryz.call126 (by decide +kernel) rfl
noncomputable def e110 : Env := e109.add 126 x126
theorem e110_good : e110.Good := Env.Good.add e109_good x126_ok
/-- mandrel/infer.count -/
noncomputable def x185 : FnE := execFnC e110 Tryz.f185 4 []
theorem x185_ok : FnE.OK Tryz.prog (Env.gam e0) 185 x185 := execFnC_ok e110_good hmix Tryz.func185 Tryz.call185 (by decide +kernel) rfl
noncomputable def e111 : Env := e110.add 185 x185
theorem e111_good : e111.Good := Env.Good.add e110_good x185_ok
/-- (mandrel/infer.maker).reshape -/
noncomputable def x161 : FnE := execFnC e111 Tryz.f161 7 [(4, [1, 5, 6, 7, 13, 14, 15])]
theorem x161_ok : FnE.OK Tryz.prog (Env.gam e0) 161 x161 := execFnC_ok e111_good hmix Tryz.func161 Tryz.call161 (by decide +kernel) rfl
noncomputable def e112 : Env := e111.add 161 x161
theorem e112_good : e112.Good := Env.Good.add e111_good x161_ok
/-- slices.Reverse[[]int64,int64] -/
noncomputable def x186 : FnE := execFnC e112 Tryz.f186 5 [(1, [0, 2, 3])]
theorem x186_ok : FnE.OK Tryz.prog (Env.gam e0) 186 x186 := execFnC_ok e112_good hmix Tryz.func186 Tryz.call186 (by decide +kernel) rfl
noncomputable def e113 : Env := e112.add 186 x186
theorem e113_good : e113.Good := Env.Good.add e112_good x186_ok
/-- (mandrel/infer.maker).transpose -/
noncomputable def x162 : FnE := execFnC e113 Tryz.f162 6 [(6, [1, 6, 7, 24, 25, 26])]
theorem x162_ok : FnE.OK Tryz.prog (Env.gam e0) 162 x162 := execFnC_ok e113_good hmix Tryz.func162 Tryz.call162 (by decide +kernel) rfl
noncomputable def e114 : Env := e113.add 162 x162
theorem e114_good : e114.Good := Env.Good.add e113_good x162_ok
/-- (mandrel/infer.maker).concat -/
noncomputable def x163 : FnE := execFnC e114 Tryz.f163 6 [(4, [1, 5, 6, 21, 22, 23]), (8, [1, 5, 6, 21, 22, 23, 35, 36, 37])]
theorem x163_ok : FnE.OK Tryz.prog (Env.gam e0) 163 x163 := execFnC_ok e114_good hmix Tryz.func163 Tryz.call163 (by decide +kernel) rfl
noncomputable def e115 : Env := e114.add 163 x163
theorem e115_good : e115.Good := Env.Good.add e114_good x163_ok
/-- mandrel/infer.bound -/
noncomputable def x187 : FnE := execFnC e115 Tryz.f187 4 []
theorem x187_ok : FnE.OK Tryz.prog (Env.gam e0) 187 x187 := execFnC_ok e115_good hmix Tryz.func187 Tryz.call187 (by decide +kernel) rfl
noncomputable def e116 : Env := e115.add 187 x187
theorem e116_good : e116.Good := Env.Good.add e115_good x187_ok
/-- (mandrel/infer.maker).slice -/
noncomputable def x164 : FnE := execFnC e116 Tryz.f164 7 [(6, [1, 5, 6, 8, 41, 42, 43])]
theorem x164_ok : FnE.OK Tryz.prog (Env.gam e0) 164 x164 := execFnC_ok e116_good hmix Tryz.func164 Tryz.call164 (by decide +kernel) rfl
noncomputable def e117 : Env := e116.add 164 x164
theorem e117_good : e117.Good := Env.Good.add e116_good x164_ok
/-- slices.Grow[[]int,int] -/
noncomputable def x188 : FnE := execFnC e117 Tryz.f188 5 []
theorem x188_ok : FnE.OK Tryz.prog (Env.gam e0) 188 x188 := execFnC_ok e117_good hmix Tryz.func188 Tryz.call188 (by decide +kernel) rfl
noncomputable def e118 : Env := e117.add 188 x188
theorem e118_good : e118.Good := Env.Good.add e117_good x188_ok
/-- slices.Concat[[]int,int] -/
noncomputable def x165 : FnE := execFnC e118 Tryz.f165 6 [(3, [0, 3, 9, 10, 11]), (11, [6, 25, 26, 27])]
theorem x165_ok : FnE.OK Tryz.prog (Env.gam e0) 165 x165 := execFnC_ok e118_good hmix Tryz.func165 Tryz.call165 (by decide +kernel) rfl
noncomputable def e119 : Env := e118.add 165 x165
theorem e119_good : e119.Good := Env.Good.add e118_good x165_ok
/-- (mandrel/infer.maker).pad -/
noncomputable def x166 : FnE := execFnC e119 Tryz.f166 6 [(4, [1, 5, 6, 17, 18])]
theorem x166_ok : FnE.OK Tryz.prog (Env.gam e0) 166 x166 := execFnC_ok e119_good hmix Tryz.func166 Tryz.call166 (by decide +kernel) rfl
noncomputable def e120 : Env := e119.add 166 x166
theorem e120_good : e120.Good := Env.Good.add e119_good x166_ok
/-- cmp.isNaN[int] -/
noncomputable def x218 : FnE := execFnC e120 Tryz.f218 3 []
theorem x218_ok : FnE.OK Tryz.prog (Env.gam e0) 218 x218 := execFnC_ok e120_good hmix Tryz.func218 Tryz.call218 (by decide +kernel) rfl
noncomputable def e121 : Env := e120.add 218 x218
theorem e121_good : e121.Good := Env.Good.add e120_good x218_ok
/-- cmp.Less[int] -/
noncomputable def x198 : FnE := execFnC e121 Tryz.f198 5 []
theorem x198_ok : FnE.OK Tryz.prog (Env.gam e0) 198 x198 := execFnC_ok e121_good hmix Tryz.func198 Tryz.call198 (by decide +kernel) rfl
noncomputable def e122 : Env := e121.add 198 x198
theorem e122_good : e122.Good := Env.Good.add e121_good x198_ok
/-- slices.insertionSortOrdered[int] -/
noncomputable def x192 : FnE := execFnC e122 Tryz.f192 6 [(1, [0, 1, 2, 6]), (4, [0, 1, 2, 6, 7])]
theorem x192_ok : FnE.OK Tryz.prog (Env.gam e0) 192 x192 := execFnC_ok e122_good hmix Tryz.func192 Tryz.call192 (by decide +kernel) rfl
noncomputable def e123 : Env := e122.add 192 x192
theorem e123_good : e123.Good := Env.Good.add e122_good x192_ok
/-- slices.siftDownOrdered[int] -/
noncomputable def x213 : FnE := execFnC e123 Tryz.f213 7 [(1, [0, 2, 3, 8])]
theorem x213_ok : FnE.OK Tryz.prog (Env.gam e0) 213 x213 := execFnC_ok e123_good hmix Tryz.func213 Tryz.call213 (by decide +kernel) rfl
noncomputable def e124 : Env := e123.add 213 x213
theorem e124_good : e124.Good := Env.Good.add e123_good x213_ok
/-- slices.heapSortOrdered[int] -/
noncomputable def x193 : FnE := execFnC e124 Tryz.f193 6 [(4, [0, 6, 7, 8, 9]), (8, [0, 6, 7, 10])]
theorem x193_ok : FnE.OK Tryz.prog (Env.gam e0) 193 x193 := execFnC_ok e124_good hmix Tryz.func193 Tryz.call193 (by decide +kernel) rfl
noncomputable def e125 : Env := e124.add 193 x193
theorem e125_good : e125.Good := Env.Good.add e124_good x193_ok
/-- math/bits.Len32 -/
noncomputable def x201 : FnE := execFnC e125 Tryz.f201 5 []
theorem x201_ok : FnE.OK Tryz.prog (Env.gam e0) 201 x201 := execFnC_ok e125_good hmix Tryz.func201 Tryz.call201 (by decide +kernel) rfl
noncomputable def e126 : Env := e125.add 201 x201
theorem e126_good : e126.Good := Env.Good.add e125_good x201_ok
/-- math/bits.Len64 -/
noncomputable def x202 : FnE := execFnC e126 Tryz.f202 5 []
theorem x202_ok : FnE.OK Tryz.prog (Env.gam e0) 202 x202 := execFnC_ok e126_good hmix Tryz.func202 Tryz.call202 (by decide +kernel) rfl
noncomputable def e127 : Env := e126.add 202 x202
theorem e127_good : e127.Good := Env.Good.add e126_good x202_ok
/-- math/bits.Len -/
noncomputable def x172 : FnE := execFnC e127 Tryz.f172 4 []
theorem x172_ok : FnE.OK Tryz.prog (Env.gam e0) 172 x172 := execFnC_ok e127_good hmix Tryz.func172 Tryz.call172 (by decide +kernel) rfl
noncomputable def e128 : Env := e127.add 172 x172
theorem e128_good : e128.Good := Env.Good.add e127_good x172_ok
/-- slices.nextPowerOfTwo -/
noncomputable def x214 : FnE := execFnC e128 Tryz.f214 3 []
theorem x214_ok : FnE.OK Tryz.prog (Env.gam e0) 214 x214 := execFnC_ok e128_good hmix Tryz.func214 Tryz.call214 (by decide +kernel) rfl
noncomputable def e129 : Env := e128.add 214 x214
theorem e129_good : e129.Good := Env.Good.add e128_good x214_ok
/-- (*slices.xorshift).Next -/
noncomputable def x215 : FnE := execFnC e129 Tryz.f215 6 []
theorem x215_ok : FnE.OK Tryz.prog (Env.gam e0) 215 x215 := execFnC_ok e129_good hmix Tryz.func215 Tryz.call215 (by decide +kernel) rfl
noncomputable def e130 : Env := e129.add 215 x215
theorem e130_good : e130.Good := Env.Good.add e129_good x215_ok
/-- slices.breakPatternsOrdered[int] -/
noncomputable def x194 : FnE := execFnC e130 Tryz.f194 7 [(5, [0, 1, 6, 7, 8, 9])]
theorem x194_ok : FnE.OK Tryz.prog (Env.gam e0) 194 x194 := execFnC_ok e130_good hmix Tryz.func194 Tryz.call194 (by decide +kernel) rfl
noncomputable def e131 : Env := e130.add 194 x194
theorem e131_good : e131.Good := Env.Good.add e130_good x194_ok
/-- slices.order2Ordered[int] -/
noncomputable def x230 : FnE := execFnC e131 Tryz.f230 5 []
theorem x230_ok : FnE.OK Tryz.prog (Env.gam e0) 230 x230 := execFnC_ok e131_good hmix Tryz.func230 Tryz.call230 (by decide +kernel) rfl
noncomputable def e132 : Env := e131.add 230 x230
theorem e132_good : e132.Good := Env.Good.add e131_good x230_ok
/-- slices.medianOrdered[int] -/
noncomputable def x217 : FnE := execFnC e132 Tryz.f217 6 []
theorem x217_ok : FnE.OK Tryz.prog (Env.gam e0) 217 x217 := execFnC_ok e132_good hmix Tryz.func217 Tryz.call217 (by decide +kernel) rfl
noncomputable def e133 : Env := e132.add 217 x217
theorem e133_good : e133.Good := Env.Good.add e132_good x217_ok
/-- slices.medianAdjacentOrdered[int] -/
noncomputable def x216 : FnE := execFnC e133 Tryz.f216 4 []
theorem x216_ok : FnE.OK Tryz.prog (Env.gam e0) 216 x216 := execFnC_ok e133_good hmix Tryz.func216 Tryz.call216 (by decide +kernel) rfl
noncomputable def e134 : Env := e133.add 216 x216
theorem e134_good : e134.Good := Env.Good.add e133_good x216_ok
/-- slices.choosePivotOrdered[int] -/
noncomputable def x195 : FnE := execFnC e134 Tryz.f195 6 []
theorem x195_ok : FnE.OK Tryz.prog (Env.gam e0) 195 x195 := execFnC_ok e134_good hmix Tryz.func195 Tryz.call195 (by decide +kernel) rfl
noncomputable def e135 : Env := e134.add 195 x195
theorem e135_good : e135.Good := Env.Good.add e134_good x195_ok
/-- slices.reverseRangeOrdered[int] -/
noncomputable def x196 : FnE := execFnC e135 Tryz.f196 6 [(2, [0, 6, 7])]
theorem x196_ok : FnE.OK Tryz.prog (Env.gam e0) 196 x196 := execFnC_ok e135_good hmix Tryz.func196 Tryz.call196 (by decide +kernel) rfl
noncomputable def e136 : Env := e135.add 196 x196
theorem e136_good : e136.Good := Env.Good.add e135_good x196_ok
/-- slices.partialInsertionSortOrdered[int] -/
noncomputable def x197 : FnE := execFnC e136 Tryz.f197 8 [(3, [0, 1, 2, 7, 8]), (5, [0, 1, 2, 7, 8]), (14, [0, 1, 2, 7, 8, 9]), (20, [0, 1, 2, 7, 8, 10])]
theorem x197_ok : FnE.OK Tryz.prog (Env.gam e0) 197 x197 := execFnC_ok e136_good hmix Tryz.func197 Tryz.call197 (by decide +kernel) rfl
noncomputable def e137 : Env := e136.add 197 x197
theorem e137_good : e137.Good := Env.Good.add e136_good x197_ok
/-- slices.partitionEqualOrdered[int] -/
noncomputable def x199 : FnE := execFnC e137 Tryz.f199 7 [(3, [0, 1, 9, 10]), (3, [0, 1, 9, 10]), (5, [0, 1, 9, 10])]
theorem x199_ok : FnE.OK Tryz.prog (Env.gam e0) 199 x199 := execFnC_ok e137_good hmix Tryz.func199 Tryz.call199 (by decide +kernel) rfl
noncomputable def e138 : Env := e137.add 199 x199
theorem e138_good : e138.Good := Env.Good.add e137_good x199_ok
/-- slices.partitionOrdered[int] -/
noncomputable def x200 : FnE := execFnC e138 Tryz.f200 8 [(3, [0, 1, 10, 11]), (5, [0, 1, 10, 11]), (13, [0, 1, 10, 11]), (13, [0, 1, 10, 11]), (15, [0, 1, 10, 11])]
theorem x200_ok : FnE.OK Tryz.prog (Env.gam e0) 200 x200 := execFnC_ok e138_good hmix Tryz.func200 Tryz.call200 (by decide +kernel) rfl
noncomputable def e139 : Env := e138.add 200 x200
theorem e139_good : e139.Good := Env.Good.add e138_good x200_ok
/-- slices.pdqsortOrdered[int] -/
noncomputable def x171 : FnE := execFnC e139 Tryz.f171 8 [(2, [0, 1, 2, 3, 8, 9])]
theorem x171_ok : FnE.OK Tryz.prog (Env.gam e0) 171 x171 := execFnC_ok e139_good hmix Tryz.func171 Tryz.call171 (by decide +kernel) rfl
noncomputable def e140 : Env := e139.add 171 x171
theorem e140_good : e140.Good := Env.Good.add e139_good x171_ok
/-- slices.Sort[[]int,int] -/
noncomputable def x134 : FnE := execFnC e140 Tryz.f134 4 []
theorem x134_ok : FnE.OK Tryz.prog (Env.gam e0) 134 x134 := execFnC_ok e140_good hmix Tryz.func134 Tryz.call134 (by decide +kernel) rfl
noncomputable def e141 : Env := e140.add 134 x134
theorem e141_good : e141.Good := Env.Good.add e140_good x134_ok
/-- slices.Reverse[[]int,int] -/
noncomputable def x189 : FnE := execFnC e141 Tryz.f189 5 [(1, [0, 2, 3])]
theorem x189_ok : FnE.OK Tryz.prog (Env.gam e0) 189 x189 := execFnC_ok e141_good hmix Tryz.func189 Tryz.call189 (by decide +kernel) rfl
noncomputable def e142 : Env := e141.add 189 x189
theorem e142_good : e142.Good := Env.Good.add e141_good x189_ok
/-- slices.Delete[[]int,int] -/
noncomputable def x190 : FnE := execFnC e142 Tryz.f190 6 []
theorem x190_ok : FnE.OK Tryz.prog (Env.gam e0) 190 x190 := execFnC_ok e142_good hmix Tryz.func190 Tryz.call190 (by decide +kernel) rfl
noncomputable def e143 : Env := e142.add 190 x190
theorem e143_good : e143.Good := Env.Good.add e142_good x190_ok
/-- (mandrel/infer.maker).squeeze -/
noncomputable def x167 : FnE := execFnC e143 Tryz.f167 6 [(6, [6, 21, 22, 23])]
theorem x167_ok : FnE.OK Tryz.prog (Env.gam e0) 167 x167 := execFnC_ok e143_good hmix Tryz.func167 Tryz.call167 (by decide +kernel) rfl
noncomputable def e144 : Env := e143.add 167 x167
theorem e144_good : e144.Good := Env.Good.add e143_good x167_ok
/-- slices.rotateLeft[int] -/
noncomputable def x229 : FnE := execFnC e144 Tryz.f229 4 []
theorem x229_ok : FnE.OK Tryz.prog (Env.gam e0) 229 x229 := execFnC_ok e144_good hmix Tryz.func229 Tryz.call229 (by decide +kernel) rfl
noncomputable def e145 : Env := e144.add 229 x229
theorem e145_good : e145.Good := Env.Good.add e144_good x229_ok
/-- slices.rotateRight[int] -/
noncomputable def x212 : FnE := execFnC e145 Tryz.f212 4 []
theorem x212_ok : FnE.OK Tryz.prog (Env.gam e0) 212 x212 := execFnC_ok e145_good hmix Tryz.func212 Tryz.call212 (by decide +kernel) rfl
noncomputable def e146 : Env := e145.add 212 x212
theorem e146_good : e146.Good := Env.Good.add e145_good x212_ok
/-- slices.Insert[[]int,int] -/
noncomputable def x191 : FnE := execFnC e146 Tryz.f191 7 []
theorem x191_ok : FnE.OK Tryz.prog (Env.gam e0) 191 x191 := execFnC_ok e146_good hmix Tryz.func191 Tryz.call191 (by decide +kernel) rfl
noncomputable def e147 : Env := e146.add 191 x191
theorem e147_good : e147.Good := Env.Good.add e146_good x191_ok
/-- (mandrel/infer.maker).unsqueeze -/
noncomputable def x168 : FnE := execFnC e147 Tryz.f168 6 [(6, [7, 24, 25, 26])]
theorem x168_ok : FnE.OK Tryz.prog (Env.gam e0) 168 x168 := execFnC_ok e147_good hmix Tryz.func168 Tryz.call168 (by decide +kernel) rfl
noncomputable def e148 : Env := e147.add 168 x168
theorem e148_good : e148.Good := Env.Good.add e147_good x168_ok
/-- (mandrel/infer.maker).flatten -/
noncomputable def x169 : FnE := execFnC e148 Tryz.f169 6 []
theorem x169_ok : FnE.OK Tryz.prog (Env.gam e0) 169 x169 := execFnC_ok e148_good hmix Tryz.func169 Tryz.call169 (by decide +kernel) rfl
noncomputable def e149 : Env := e148.add 169 x169
theorem e149_good : e149.Good := Env.Good.add e148_good x169_ok
/-- (mandrel/infer.maker).moved -/
noncomputable def x127 : FnE := execFnC e149 Tryz.f127 7 []
theorem x127_ok : FnE.OK Tryz.prog (Env.gam e0) 127 x127 := execFnC_ok e149_good hmix Tryz.func127 Tryz.call127 (by decide +kernel) rfl
noncomputable def e150 : Env := e149.add 127 x127
theorem e150_good : e150.Good := Env.Good.add e149_good x127_ok
/-- (mandrel/infer.maker).dims -/
noncomputable def x94 : FnE := execFnC e150 Tryz.f94 8 [(56, [3, 132, 133, 134])]
theorem x94_ok : FnE.OK Tryz.prog (Env.gam e0) 94 x94 := execFnC_ok e150_good hmix Tryz.func94 Tryz.call94 (by decide +kernel) rfl
noncomputable def e151 : Env := e150.add 94 x94
theorem e151_good : e151.Good := Env.Good.add e150_good x94_ok
/-- (mandrel/infer.maker).then -/
noncomputable def x95 : FnE := execFnC e151 Tryz.f95 6 [(3, [1, 16, 17, 18])]
theorem x95_ok : FnE.OK Tryz.prog (Env.gam e0) 95 x95 := execFnC_ok e151_good hmix Tryz.func95 Tryz.call95 (by decide +kernel) rfl
noncomputable def e152 : Env := e151.add 95 x95
theorem e152_good : e152.Good := Env.Good.add e151_good x95_ok
/-- mandrel/infer.Out -/
noncomputable def d55 : DefC := ⟨89, Tryz.f89, 5, [], 5, 2, 15, [.tmp 4, .tmp 5]⟩
noncomputable def x55 : FnE := execFnDC e152 Tryz.f55 7 [(5, [1, 2, 4, 5, 26, 27, 28])] d55
theorem x55_ok : FnE.OK Tryz.prog (Env.gam e0) 55 x55 := execFnDC_ok e152_good (execFnD_ok (D := d55) e152_good hmix Tryz.func55 Tryz.call55 rfl rfl (by decide +kernel) rfl Tryz.func89 Tryz.call89 rfl rfl (by decide +kernel))
noncomputable def e153 : Env := e152.add 55 x55
theorem e153_good : e153.Good := Env.Good.add e152_good x55_ok
/-- mandrel/conv.begin -/
noncomputable def x28 : FnE := execFnC e153 Tryz.f28 6 [(3, [2, 4, 6, 9, 10, 11])]
theorem x28_ok : FnE.OK Tryz.prog (Env.gam e0) 28 x28 := execFnC_ok e153_good hmix Tryz.func28 Tryz.call28 (by decide +kernel) rfl
noncomputable def e154 : Env := e153.add 28 x28
theorem e154_good : e154.Good := Env.Good.add e153_good x28_ok
/-- mandrel/conv.pair -/
noncomputable def x63 : FnE := execFnC e154 Tryz.f63 5 []
theorem x63_ok : FnE.OK Tryz.prog (Env.gam e0) 63 x63 := execFnC_ok e154_good hmix Tryz.func63 Tryz.call63 (by decide +kernel) rfl
noncomputable def e155 : Env := e154.add 63 x63
theorem e155_good : e155.Good := Env.Good.add e154_good x63_ok
/-- mandrel/conv.look -/
noncomputable def x32 : FnE := execFnC e155 Tryz.f32 6 []
theorem x32_ok : FnE.OK Tryz.prog (Env.gam e0) 32 x32 := execFnC_ok e155_good hmix Tryz.func32 Tryz.call32 (by decide +kernel) rfl
noncomputable def e156 : Env := e155.add 32 x32
theorem e156_good : e156.Good := Env.Good.add e155_good x32_ok
/-- mandrel/shape.Strides -/
noncomputable def x85 : FnE := execFnC e156 Tryz.f85 6 [(7, [0, 6, 7, 22, 23])]
theorem x85_ok : FnE.OK Tryz.prog (Env.gam e0) 85 x85 := execFnC_ok e156_good hmix Tryz.func85 Tryz.call85 (by decide +kernel) rfl
noncomputable def e157 : Env := e156.add 85 x85
theorem e157_good : e157.Good := Env.Good.add e156_good x85_ok
/-- mandrel/shape.Coords -/
noncomputable def x58 : FnE := execFnC e157 Tryz.f58 6 [(9, [1, 10, 36, 37, 38])]
theorem x58_ok : FnE.OK Tryz.prog (Env.gam e0) 58 x58 := execFnC_ok e157_good hmix Tryz.func58 Tryz.call58 (by decide +kernel) rfl
noncomputable def e158 : Env := e157.add 58 x58
theorem e158_good : e158.Good := Env.Good.add e157_good x58_ok
/-- mandrel/conv.two -/
noncomputable def x60 : FnE := execFnC e158 Tryz.f60 5 []
theorem x60_ok : FnE.OK Tryz.prog (Env.gam e0) 60 x60 := execFnC_ok e158_good hmix Tryz.func60 Tryz.call60 (by decide +kernel) rfl
noncomputable def e159 : Env := e158.add 60 x60
theorem e159_good : e159.Good := Env.Good.add e158_good x60_ok
noncomputable def e160 : Env := e159.withRound (roundC e159 [])
theorem e160_good : e160.Good := Env.Good.withRound e159_good (roundC_ok e159_good hmix [])
/-- (mandrel/conv.window).places$1 -/
noncomputable def x99 : FnE := execFnC e160 Tryz.f99 7 [(1, [0, 1, 2, 3, 12, 13])]
theorem x99_ok : FnE.OK Tryz.prog (Env.gam e0) 99 x99 := execFnC_ok e160_good hmix Tryz.func99 Tryz.call99 (by decide +kernel) rfl
noncomputable def e161 : Env := e160.add 99 x99
theorem e161_good : e161.Good := Env.Good.add e160_good x99_ok
/-- (mandrel/conv.window).places -/
noncomputable def x59 : FnE := execFnC e161 Tryz.f59 4 []
theorem x59_ok : FnE.OK Tryz.prog (Env.gam e0) 59 x59 := execFnC_ok e161_good hmix Tryz.func59 Tryz.call59 (by decide +kernel) rfl
noncomputable def e162 : Env := e161.add 59 x59
theorem e162_good : e162.Good := Env.Good.add e161_good x59_ok
/-- mandrel/conv.conv -/
noncomputable def x29 : FnE := execFnC e162 Tryz.f29 8 [(9, [1, 2, 7, 8, 9, 11, 12, 13, 16, 69, 70]), (15, [1, 2, 7, 8, 9, 11, 12, 13, 16, 17, 18, 20, 21, 69, 70, 82, 83]), (20, [0, 1, 2, 3, 9, 21, 23, 24, 25, 65, 77, 91, 100, 108, 117, 131, 132, 133, 134, 135, 136, 137, 138, 139, 140, 141, 142, 143, 144])]
theorem x29_ok : FnE.OK Tryz.prog (Env.gam e0) 29 x29 := execFnC_ok e162_good hmix Tryz.func29 Tryz.call29 (by decide +kernel) rfl
noncomputable def e163 : Env := e162.add 29 x29
theorem e163_good : e163.Good := Env.Good.add e162_good x29_ok
/-- mandrel/num.toWhole -/
noncomputable def x130 : FnE := execFnC e163 Tryz.f130 5 []
theorem x130_ok : FnE.OK Tryz.prog (Env.gam e0) 130 x130 := execFnC_ok e163_good hmix Tryz.func130 Tryz.call130 (by decide +kernel) rfl
noncomputable def e164 : Env := e163.add 130 x130
theorem e164_good : e164.Good := Env.Good.add e163_good x130_ok
/-- mandrel/num.Cast -/
noncomputable def x101 : FnE := execFnC e164 Tryz.f101 6 []
theorem x101_ok : FnE.OK Tryz.prog (Env.gam e0) 101 x101 := execFnC_ok e164_good hmix Tryz.func101 Tryz.call101 (by decide +kernel) rfl
noncomputable def e165 : Env := e164.add 101 x101
theorem e165_good : e165.Good := Env.Good.add e164_good x101_ok
/-- mandrel/conv.together -/
noncomputable def x62 : FnE := execFnC e165 Tryz.f62 6 [(3, [0, 1, 2, 3, 4, 7, 8, 9, 14, 15, 16, 17, 18, 20, 21, 22, 23, 24, 26, 27, 28, 29, 30, 32, 33, 34])]
theorem x62_ok : FnE.OK Tryz.prog (Env.gam e0) 62 x62 := execFnC_ok e165_good hmix Tryz.func62 Tryz.call62 (by decide +kernel) rfl
noncomputable def e166 : Env := e165.add 62 x62
theorem e166_good : e166.Good := Env.Good.add e165_good x62_ok
/-- mandrel/conv.pool -/
noncomputable def x31 : FnE := execFnC e166 Tryz.f31 6 [(3, [3, 4, 5, 6, 9, 15, 16]), (7, [3, 4, 5, 6, 9, 11, 15, 16, 31, 32]), (10, [3, 4, 5, 6, 9, 11, 12, 15, 16, 31, 32, 37, 38])]
theorem x31_ok : FnE.OK Tryz.prog (Env.gam e0) 31 x31 := execFnC_ok e166_good hmix Tryz.func31 Tryz.call31 (by decide +kernel) rfl
noncomputable def e167 : Env := e166.add 31 x31
theorem e167_good : e167.Good := Env.Good.add e166_good x31_ok
/-- mandrel/conv.Do -/
noncomputable def x17 : FnE := execFnC e167 Tryz.f17 7 []
theorem x17_ok : FnE.OK Tryz.prog (Env.gam e0) 17 x17 := execFnC_ok e167_good hmix Tryz.func17 Tryz.call17 (by decide +kernel) rfl
noncomputable def e168 : Env := e167.add 17 x17
theorem e168_good : e168.Good := Env.Good.add e167_good x17_ok
/-- mandrel/mandrellaw13.live -/
noncomputable def x16 : FnE := execFnC e168 Tryz.f16 7 []
theorem x16_ok : FnE.OK Tryz.prog (Env.gam e0) 16 x16 := execFnC_ok e168_good hmix Tryz.func16 Tryz.call16 (by decide +kernel) rfl
noncomputable def e169 : Env := e168.add 16 x16
theorem e169_good : e169.Good := Env.Good.add e168_good x16_ok
/-- mandrel/mandrelref03.Same -/
noncomputable def x33 : FnE := execFnC e169 Tryz.f33 5 [(4, [0, 1, 5])]
theorem x33_ok : FnE.OK Tryz.prog (Env.gam e0) 33 x33 := execFnC_ok e169_good hmix Tryz.func33 Tryz.call33 (by decide +kernel) rfl
noncomputable def e170 : Env := e169.add 33 x33
theorem e170_good : e170.Good := Env.Good.add e169_good x33_ok
/-- mandrel/mandrelref05.SameTensor -/
noncomputable def x18 : FnE := execFnC e170 Tryz.f18 6 [(4, [2, 3, 5])]
theorem x18_ok : FnE.OK Tryz.prog (Env.gam e0) 18 x18 := execFnC_ok e170_good hmix Tryz.func18 Tryz.call18 (by decide +kernel) rfl
noncomputable def e171 : Env := e170.add 18 x18
theorem e171_good : e171.Good := Env.Good.add e170_good x18_ok
/-- mandrel/mandrellaw13.ConvGlobal -/
noncomputable def x3 : FnE := execFnC e171 Tryz.f3 7 []
theorem x3_ok : FnE.OK Tryz.prog (Env.gam e0) 3 x3 := execFnC_ok e171_good hmix Tryz.func3 Tryz.call3 (by decide +kernel) rfl
noncomputable def e172 : Env := e171.add 3 x3
theorem e172_good : e172.Good := Env.Good.add e171_good x3_ok
/-- mandrel/mandrellaw13.ConvOne -/
noncomputable def x4 : FnE := execFnC e172 Tryz.f4 6 []
theorem x4_ok : FnE.OK Tryz.prog (Env.gam e0) 4 x4 := execFnC_ok e172_good hmix Tryz.func4 Tryz.call4 (by decide +kernel) rfl
noncomputable def e173 : Env := e172.add 4 x4
theorem e173_good : e173.Good := Env.Good.add e172_good x4_ok
/-- mandrel/mandrellaw13.ConvMost -/
noncomputable def x5 : FnE := execFnC e173 Tryz.f5 8 [(4, [1, 2, 3, 7]), (13, [3, 9, 11]), (16, [3, 9, 11, 12])]
theorem x5_ok : FnE.OK Tryz.prog (Env.gam e0) 5 x5 := execFnC_ok e173_good hmix Tryz.func5 Tryz.call5 (by decide +kernel) rfl
noncomputable def e174 : Env := e173.add 5 x5
theorem e174_good : e174.Good := Env.Good.add e173_good x5_ok
/-- mandrel/mandrellaw12.small -/
noncomputable def x20 : FnE := execFnC e174 Tryz.f20 5 [(2, [0, 3])]
theorem x20_ok : FnE.OK Tryz.prog (Env.gam e0) 20 x20 := execFnC_ok e174_good hmix Tryz.func20 Tryz.call20 (by decide +kernel) rfl
noncomputable def e175 : Env := e174.add 20 x20
theorem e175_good : e175.Good := Env.Good.add e174_good x20_ok
/-- mandrel/linear.begin -/
noncomputable def x39 : FnE := execFnC e175 Tryz.f39 6 [(3, [2, 4, 6, 9, 10, 11])]
theorem x39_ok : FnE.OK Tryz.prog (Env.gam e0) 39 x39 := execFnC_ok e175_good hmix Tryz.func39 Tryz.call39 (by decide +kernel) rfl
noncomputable def e176 : Env := e175.add 39 x39
theorem e176_good : e176.Good := Env.Good.add e175_good x39_ok
/-- mandrel/view.fine -/
noncomputable def x75 : FnE := execFnC e176 Tryz.f75 6 []
theorem x75_ok : FnE.OK Tryz.prog (Env.gam e0) 75 x75 := execFnC_ok e176_good hmix Tryz.func75 Tryz.call75 (by decide +kernel) rfl
noncomputable def e177 : Env := e176.add 75 x75
theorem e177_good : e177.Good := Env.Good.add e176_good x75_ok
/-- mandrel/view.Spread -/
noncomputable def x44 : FnE := execFnC e177 Tryz.f44 7 [(10, [2, 4, 6, 8, 38, 39, 40])]
theorem x44_ok : FnE.OK Tryz.prog (Env.gam e0) 44 x44 := execFnC_ok e177_good hmix Tryz.func44 Tryz.call44 (by decide +kernel) rfl
noncomputable def e178 : Env := e177.add 44 x44
theorem e178_good : e178.Good := Env.Good.add e177_good x44_ok
/-- mandrel/view.Whole -/
noncomputable def x78 : FnE := execFnC e178 Tryz.f78 5 []
theorem x78_ok : FnE.OK Tryz.prog (Env.gam e0) 78 x78 := execFnC_ok e178_good hmix Tryz.func78 Tryz.call78 (by decide +kernel) rfl
noncomputable def e179 : Env := e178.add 78 x78
theorem e179_good : e179.Good := Env.Good.add e178_good x78_ok
noncomputable def e180 : Env := e179.withRound (roundC e179 [])
theorem e180_good : e180.Good := Env.Good.withRound e179_good (roundC_ok e179_good hmix [])
/-- mandrel/view.places$1 -/
noncomputable def x132 : FnE := execFnC e180 Tryz.f132 6 [(2, [0, 1, 3, 4]), (4, [0, 1, 3, 4, 5])]
theorem x132_ok : FnE.OK Tryz.prog (Env.gam e0) 132 x132 := execFnC_ok e180_good hmix Tryz.func132 Tryz.call132 (by decide +kernel) rfl
noncomputable def e181 : Env := e180.add 132 x132
theorem e181_good : e181.Good := Env.Good.add e180_good x132_ok
/-- mandrel/view.places -/
noncomputable def x107 : FnE := execFnC e181 Tryz.f107 3 []
theorem x107_ok : FnE.OK Tryz.prog (Env.gam e0) 107 x107 := execFnC_ok e181_good hmix Tryz.func107 Tryz.call107 (by decide +kernel) rfl
noncomputable def e182 : Env := e181.add 107 x107
theorem e182_good : e182.Good := Env.Good.add e181_good x107_ok
/-- mandrel/view.Read -/
noncomputable def x79 : FnE := execFnC e182 Tryz.f79 5 [(5, [0, 1, 2, 3, 4, 5, 6, 14, 15, 16, 17, 18, 19, 20, 21, 22, 23, 24])]
theorem x79_ok : FnE.OK Tryz.prog (Env.gam e0) 79 x79 := execFnC_ok e182_good hmix Tryz.func79 Tryz.call79 (by decide +kernel) rfl
noncomputable def e183 : Env := e182.add 79 x79
theorem e183_good : e183.Good := Env.Good.add e182_good x79_ok
/-- mandrel/linear.matrices -/
noncomputable def x68 : FnE := execFnC e183 Tryz.f68 7 [(7, [2, 6, 7, 8, 10, 56, 57]), (14, [2, 6, 7, 14, 71, 72, 73])]
theorem x68_ok : FnE.OK Tryz.prog (Env.gam e0) 68 x68 := execFnC_ok e183_good hmix Tryz.func68 Tryz.call68 (by decide +kernel) rfl
noncomputable def e184 : Env := e183.add 68 x68
theorem e184_good : e184.Good := Env.Good.add e183_good x68_ok
/-- slices.Grow[[]int64,int64] -/
noncomputable def x104 : FnE := execFnC e184 Tryz.f104 5 []
theorem x104_ok : FnE.OK Tryz.prog (Env.gam e0) 104 x104 := execFnC_ok e184_good hmix Tryz.func104 Tryz.call104 (by decide +kernel) rfl
noncomputable def e185 : Env := e184.add 104 x104
theorem e185_good : e185.Good := Env.Good.add e184_good x104_ok
/-- slices.Concat[[]int64,int64] -/
noncomputable def x69 : FnE := execFnC e185 Tryz.f69 6 [(3, [0, 3, 9, 10, 11]), (11, [6, 25, 26, 27])]
theorem x69_ok : FnE.OK Tryz.prog (Env.gam e0) 69 x69 := execFnC_ok e185_good hmix Tryz.func69 Tryz.call69 (by decide +kernel) rfl
noncomputable def e186 : Env := e185.add 69 x69
theorem e186_good : e186.Good := Env.Good.add e185_good x69_ok
/-- mandrel/linear.two -/
noncomputable def x73 : FnE := execFnC e186 Tryz.f73 5 []
theorem x73_ok : FnE.OK Tryz.prog (Env.gam e0) 73 x73 := execFnC_ok e186_good hmix Tryz.func73 Tryz.call73 (by decide +kernel) rfl
noncomputable def e187 : Env := e186.add 73 x73
theorem e187_good : e187.Good := Env.Good.add e186_good x73_ok
/-- (mandrel/linear.matrix).row -/
noncomputable def x131 : FnE := execFnC e187 Tryz.f131 4 []
theorem x131_ok : FnE.OK Tryz.prog (Env.gam e0) 131 x131 := execFnC_ok e187_good hmix Tryz.func131 Tryz.call131 (by decide +kernel) rfl
noncomputable def e188 : Env := e187.add 131 x131
theorem e188_good : e188.Good := Env.Good.add e187_good x131_ok
/-- (mandrel/linear.matrix).block -/
noncomputable def x105 : FnE := execFnC e188 Tryz.f105 7 [(2, [3, 4, 5, 6, 7, 10]), (6, [3, 4, 5, 6, 7, 10, 11, 12, 33, 34]), (10, [3, 4, 5, 6, 7, 10, 11, 12, 13, 14, 15, 33, 34])]
theorem x105_ok : FnE.OK Tryz.prog (Env.gam e0) 105 x105 := execFnC_ok e188_good hmix Tryz.func105 Tryz.call105 (by decide +kernel) rfl
noncomputable def e189 : Env := e188.add 105 x105
theorem e189_good : e189.Good := Env.Good.add e188_good x105_ok
/-- mandrel/linear.product -/
noncomputable def x70 : FnE := execFnC e189 Tryz.f70 6 [(3, [2, 3, 5, 6]), (6, [2, 3, 5, 6, 7])]
theorem x70_ok : FnE.OK Tryz.prog (Env.gam e0) 70 x70 := execFnC_ok e189_good hmix Tryz.func70 Tryz.call70 (by decide +kernel) rfl
noncomputable def e190 : Env := e189.add 70 x70
theorem e190_good : e190.Good := Env.Good.add e189_good x70_ok
/-- mandrel/linear.matmul -/
noncomputable def x40 : FnE := execFnC e190 Tryz.f40 6 [(6, [8, 9, 10, 32, 33])]
theorem x40_ok : FnE.OK Tryz.prog (Env.gam e0) 40 x40 := execFnC_ok e190_good hmix Tryz.func40 Tryz.call40 (by decide +kernel) rfl
noncomputable def e191 : Env := e190.add 40 x40
theorem e191_good : e191.Good := Env.Good.add e190_good x40_ok
/-- slices.AppendSeq[[]int,int] -/
noncomputable def x170 : FnE := execFnC e191 Tryz.f170 4 [(2, [0, 1, 2, 8, 9, 10, 11])]
theorem x170_ok : FnE.OK Tryz.prog (Env.gam e0) 170 x170 := execFnC_ok e191_good hmix Tryz.func170 Tryz.call170 (by decide +kernel) rfl
noncomputable def e192 : Env := e191.add 170 x170
theorem e192_good : e192.Good := Env.Good.add e191_good x170_ok
/-- slices.Collect[int] -/
noncomputable def x133 : FnE := execFnC e192 Tryz.f133 3 []
theorem x133_ok : FnE.OK Tryz.prog (Env.gam e0) 133 x133 := execFnC_ok e192_good hmix Tryz.func133 Tryz.call133 (by decide +kernel) rfl
noncomputable def e193 : Env := e192.add 133 x133
theorem e193_good : e193.Good := Env.Good.add e192_good x133_ok
/-- slices.Sorted[int] -/
noncomputable def x108 : FnE := execFnC e193 Tryz.f108 4 []
theorem x108_ok : FnE.OK Tryz.prog (Env.gam e0) 108 x108 := execFnC_ok e193_good hmix Tryz.func108 Tryz.call108 (by decide +kernel) rfl
noncomputable def e194 : Env := e193.add 108 x108
theorem e194_good : e194.Good := Env.Good.add e193_good x108_ok
noncomputable def e195 : Env := e194.withRound (roundC e194 [])
theorem e195_good : e195.Good := Env.Good.withRound e194_good (roundC_ok e194_good hmix [])
/-- slices.Values[[]int,int]$1 -/
noncomputable def x135 : FnE := execFnC e195 Tryz.f135 5 [(1, [0, 5, 6, 7])]
theorem x135_ok : FnE.OK Tryz.prog (Env.gam e0) 135 x135 := execFnC_ok e195_good hmix Tryz.func135 Tryz.call135 (by decide +kernel) rfl
noncomputable def e196 : Env := e195.add 135 x135
theorem e196_good : e196.Good := Env.Good.add e195_good x135_ok
/-- slices.Values[[]int,int] -/
noncomputable def x109 : FnE := execFnC e196 Tryz.f109 3 []
theorem x109_ok : FnE.OK Tryz.prog (Env.gam e0) 109 x109 := execFnC_ok e196_good hmix Tryz.func109 Tryz.call109 (by decide +kernel) rfl
noncomputable def e197 : Env := e196.add 109 x109
theorem e197_good : e197.Good := Env.Good.add e196_good x109_ok
/-- mandrel/view.own -/
noncomputable def x110 : FnE := execFnC e197 Tryz.f110 4 []
theorem x110_ok : FnE.OK Tryz.prog (Env.gam e0) 110 x110 := execFnC_ok e197_good hmix Tryz.func110 Tryz.call110 (by decide +kernel) rfl
noncomputable def e198 : Env := e197.add 110 x110
theorem e198_good : e198.Good := Env.Good.add e197_good x110_ok
/-- mandrel/view.Transpose -/
noncomputable def x80 : FnE := execFnC e198 Tryz.f80 7 [(4, [1, 2, 4, 17, 18, 19]), (13, [2, 4, 8, 38, 39, 40])]
theorem x80_ok : FnE.OK Tryz.prog (Env.gam e0) 80 x80 := execFnC_ok e198_good hmix Tryz.func80 Tryz.call80 (by decide +kernel) rfl
noncomputable def e199 : Env := e198.add 80 x80
theorem e199_good : e199.Good := Env.Good.add e198_good x80_ok
/-- mandrel/linear.turned -/
noncomputable def x71 : FnE := execFnC e199 Tryz.f71 6 []
theorem x71_ok : FnE.OK Tryz.prog (Env.gam e0) 71 x71 := execFnC_ok e199_good hmix Tryz.func71 Tryz.call71 (by decide +kernel) rfl
noncomputable def e200 : Env := e199.add 71 x71
theorem e200_good : e200.Good := Env.Good.add e199_good x71_ok
/-- mandrel/schema.Bits -/
noncomputable def x72 : FnE := execFnC e200 Tryz.f72 5 []
theorem x72_ok : FnE.OK Tryz.prog (Env.gam e0) 72 x72 := execFnC_ok e200_good hmix Tryz.func72 Tryz.call72 (by decide +kernel) rfl
noncomputable def e201 : Env := e200.add 72 x72
theorem e201_good : e201.Good := Env.Good.add e200_good x72_ok
/-- mandrel/linear.spread -/
noncomputable def x74 : FnE := execFnC e201 Tryz.f74 5 []
theorem x74_ok : FnE.OK Tryz.prog (Env.gam e0) 74 x74 := execFnC_ok e201_good hmix Tryz.func74 Tryz.call74 (by decide +kernel) rfl
noncomputable def e202 : Env := e201.add 74 x74
theorem e202_good : e202.Good := Env.Good.add e201_good x74_ok
/-- mandrel/linear.gemm -/
noncomputable def x41 : FnE := execFnC e202 Tryz.f41 7 [(6, [1, 2, 9, 10, 11, 37, 38]), (12, [9, 11, 58, 59, 60])]
theorem x41_ok : FnE.OK Tryz.prog (Env.gam e0) 41 x41 := execFnC_ok e202_good hmix Tryz.func41 Tryz.call41 (by decide +kernel) rfl
noncomputable def e203 : Env := e202.add 41 x41
theorem e203_good : e203.Good := Env.Good.add e202_good x41_ok
/-- mandrel/linear.Do -/
noncomputable def x23 : FnE := execFnC e203 Tryz.f23 6 []
theorem x23_ok : FnE.OK Tryz.prog (Env.gam e0) 23 x23 := execFnC_ok e203_good hmix Tryz.func23 Tryz.call23 (by decide +kernel) rfl
noncomputable def e204 : Env := e203.add 23 x23
theorem e204_good : e204.Good := Env.Good.add e203_good x23_ok
/-- mandrel/mandrellaw12.live -/
noncomputable def x21 : FnE := execFnC e204 Tryz.f21 5 []
theorem x21_ok : FnE.OK Tryz.prog (Env.gam e0) 21 x21 := execFnC_ok e204_good hmix Tryz.func21 Tryz.call21 (by decide +kernel) rfl
noncomputable def e205 : Env := e204.add 21 x21
theorem e205_good : e205.Good := Env.Good.add e204_good x21_ok
/-- mandrel/mandrelref03.Copy -/
noncomputable def x38 : FnE := execFnC e205 Tryz.f38 3 []
theorem x38_ok : FnE.OK Tryz.prog (Env.gam e0) 38 x38 := execFnC_ok e205_good hmix Tryz.func38 Tryz.call38 (by decide +kernel) rfl
noncomputable def e206 : Env := e205.add 38 x38
theorem e206_good : e206.Good := Env.Good.add e205_good x38_ok
/-- mandrel/mandrelref05.CopyTensor -/
noncomputable def x22 : FnE := execFnC e206 Tryz.f22 5 []
theorem x22_ok : FnE.OK Tryz.prog (Env.gam e0) 22 x22 := execFnC_ok e206_good hmix Tryz.func22 Tryz.call22 (by decide +kernel) rfl
noncomputable def e207 : Env := e206.add 22 x22
theorem e207_good : e207.Good := Env.Good.add e206_good x22_ok
/-- mandrel/mandrellaw12.LinearOne -/
noncomputable def x6 : FnE := execFnC e207 Tryz.f6 7 [(6, [1, 3, 4, 5]), (14, [1, 3, 4, 6, 7])]
theorem x6_ok : FnE.OK Tryz.prog (Env.gam e0) 6 x6 := execFnC_ok e207_good hmix Tryz.func6 Tryz.call6 (by decide +kernel) rfl
noncomputable def e208 : Env := e207.add 6 x6
theorem e208_good : e208.Good := Env.Good.add e207_good x6_ok
/-- mandrel/mandrellaw12.LinearRows -/
noncomputable def x7 : FnE := execFnC e208 Tryz.f7 8 []
theorem x7_ok : FnE.OK Tryz.prog (Env.gam e0) 7 x7 := execFnC_ok e208_good hmix Tryz.func7 Tryz.call7 (by decide +kernel) rfl
noncomputable def e209 : Env := e208.add 7 x7
theorem e209_good : e209.Good := Env.Good.add e208_good x7_ok
/-- mandrel/mandrellaw12.LinearGemm -/
noncomputable def x8 : FnE := execFnC e209 Tryz.f8 6 []
theorem x8_ok : FnE.OK Tryz.prog (Env.gam e0) 8 x8 := execFnC_ok e209_good hmix Tryz.func8 Tryz.call8 (by decide +kernel) rfl
noncomputable def e210 : Env := e209.add 8 x8
theorem e210_good : e210.Good := Env.Good.add e209_good x8_ok
/-- mandrel/mandrellaw12.LinearBatch -/
noncomputable def x9 : FnE := execFnC e210 Tryz.f9 8 []
theorem x9_ok : FnE.OK Tryz.prog (Env.gam e0) 9 x9 := execFnC_ok e210_good hmix Tryz.func9 Tryz.call9 (by decide +kernel) rfl
noncomputable def e211 : Env := e210.add 9 x9
theorem e211_good : e211.Good := Env.Good.add e210_good x9_ok
/-- mandrel/mandrellaw10.small -/
noncomputable def x24 : FnE := execFnC e211 Tryz.f24 5 [(2, [0, 3])]
theorem x24_ok : FnE.OK Tryz.prog (Env.gam e0) 24 x24 := execFnC_ok e211_good hmix Tryz.func24 Tryz.call24 (by decide +kernel) rfl
noncomputable def e212 : Env := e211.add 24 x24
theorem e212_good : e212.Good := Env.Good.add e211_good x24_ok
/-- mandrel/move.begin -/
noncomputable def x42 : FnE := execFnC e212 Tryz.f42 6 [(3, [2, 4, 6, 9, 10, 11])]
theorem x42_ok : FnE.OK Tryz.prog (Env.gam e0) 42 x42 := execFnC_ok e212_good hmix Tryz.func42 Tryz.call42 (by decide +kernel) rfl
noncomputable def e213 : Env := e212.add 42 x42
theorem e213_good : e213.Good := Env.Good.add e212_good x42_ok
/-- mandrel/move.whole -/
noncomputable def x45 : FnE := execFnC e213 Tryz.f45 4 []
theorem x45_ok : FnE.OK Tryz.prog (Env.gam e0) 45 x45 := execFnC_ok e213_good hmix Tryz.func45 Tryz.call45 (by decide +kernel) rfl
noncomputable def e214 : Env := e213.add 45 x45
theorem e214_good : e214.Good := Env.Good.add e213_good x45_ok
/-- mandrel/move.read -/
noncomputable def x46 : FnE := execFnC e214 Tryz.f46 4 []
theorem x46_ok : FnE.OK Tryz.prog (Env.gam e0) 46 x46 := execFnC_ok e214_good hmix Tryz.func46 Tryz.call46 (by decide +kernel) rfl
noncomputable def e215 : Env := e214.add 46 x46
theorem e215_good : e215.Good := Env.Good.add e214_good x46_ok
/-- mandrel/move.transpose -/
noncomputable def x47 : FnE := execFnC e215 Tryz.f47 6 [(3, [2, 3, 5, 14, 15]), (9, [3, 7, 25, 26, 27])]
theorem x47_ok : FnE.OK Tryz.prog (Env.gam e0) 47 x47 := execFnC_ok e215_good hmix Tryz.func47 Tryz.call47 (by decide +kernel) rfl
noncomputable def e216 : Env := e215.add 47 x47
theorem e216_good : e216.Good := Env.Good.add e215_good x47_ok
/-- mandrel/move.axis -/
noncomputable def x81 : FnE := execFnC e216 Tryz.f81 4 []
theorem x81_ok : FnE.OK Tryz.prog (Env.gam e0) 81 x81 := execFnC_ok e216_good hmix Tryz.func81 Tryz.call81 (by decide +kernel) rfl
noncomputable def e217 : Env := e216.add 81 x81
theorem e217_good : e217.Good := Env.Good.add e216_good x81_ok
/-- mandrel/view.Slice -/
noncomputable def x82 : FnE := execFnC e217 Tryz.f82 7 []
theorem x82_ok : FnE.OK Tryz.prog (Env.gam e0) 82 x82 := execFnC_ok e217_good hmix Tryz.func82 Tryz.call82 (by decide +kernel) rfl
noncomputable def e218 : Env := e217.add 82 x82
theorem e218_good : e218.Good := Env.Good.add e217_good x82_ok
/-- mandrel/move.slice -/
noncomputable def x48 : FnE := execFnC e218 Tryz.f48 7 [(4, [2, 3, 4, 7, 8, 19, 20]), (10, [2, 4, 7, 10, 32, 33, 34])]
theorem x48_ok : FnE.OK Tryz.prog (Env.gam e0) 48 x48 := execFnC_ok e218_good hmix Tryz.func48 Tryz.call48 (by decide +kernel) rfl
noncomputable def e219 : Env := e218.add 48 x48
theorem e219_good : e219.Good := Env.Good.add e218_good x48_ok
/-- mandrel/move.blocks -/
noncomputable def x83 : FnE := execFnC e219 Tryz.f83 5 []
theorem x83_ok : FnE.OK Tryz.prog (Env.gam e0) 83 x83 := execFnC_ok e219_good hmix Tryz.func83 Tryz.call83 (by decide +kernel) rfl
noncomputable def e220 : Env := e219.add 83 x83
theorem e220_good : e220.Good := Env.Good.add e219_good x83_ok
/-- mandrel/move.concat -/
noncomputable def x49 : FnE := execFnC e220 Tryz.f49 7 [(6, [7, 8, 9, 10, 11, 32, 33, 34]), (10, [7, 8, 9, 10, 11, 13, 15, 32, 33, 34, 45, 46])]
theorem x49_ok : FnE.OK Tryz.prog (Env.gam e0) 49 x49 := execFnC_ok e220_good hmix Tryz.func49 Tryz.call49 (by decide +kernel) rfl
noncomputable def e221 : Env := e220.add 49 x49
theorem e221_good : e221.Good := Env.Good.add e220_good x49_ok
/-- mandrel/move.gather -/
noncomputable def x50 : FnE := execFnC e221 Tryz.f50 7 [(8, [1, 6, 9, 10, 11, 12, 41, 42]), (11, [1, 6, 9, 10, 11, 12, 13, 41, 42, 48, 49, 50])]
theorem x50_ok : FnE.OK Tryz.prog (Env.gam e0) 50 x50 := execFnC_ok e221_good hmix Tryz.func50 Tryz.call50 (by decide +kernel) rfl
noncomputable def e222 : Env := e221.add 50 x50
theorem e222_good : e222.Good := Env.Good.add e221_good x50_ok
/-- math/bits.Mul32 -/
noncomputable def x136 : FnE := execFnC e222 Tryz.f136 5 []
theorem x136_ok : FnE.OK Tryz.prog (Env.gam e0) 136 x136 := execFnC_ok e222_good hmix Tryz.func136 Tryz.call136 (by decide +kernel) rfl
noncomputable def e223 : Env := e222.add 136 x136
theorem e223_good : e223.Good := Env.Good.add e222_good x136_ok
/-- math/bits.Mul64 -/
noncomputable def x137 : FnE := execFnC e223 Tryz.f137 6 []
theorem x137_ok : FnE.OK Tryz.prog (Env.gam e0) 137 x137 := execFnC_ok e223_good hmix Tryz.func137 Tryz.call137 (by decide +kernel) rfl
noncomputable def e224 : Env := e223.add 137 x137
theorem e224_good : e224.Good := Env.Good.add e223_good x137_ok
/-- math/bits.Mul -/
noncomputable def x111 : FnE := execFnC e224 Tryz.f111 5 []
theorem x111_ok : FnE.OK Tryz.prog (Env.gam e0) 111 x111 := execFnC_ok e224_good hmix Tryz.func111 Tryz.call111 (by decide +kernel) rfl
noncomputable def e225 : Env := e224.add 111 x111
theorem e225_good : e225.Good := Env.Good.add e224_good x111_ok
/-- slices.Repeat[[]int64,int64] -/
noncomputable def x84 : FnE := execFnC e225 Tryz.f84 6 [(8, [7, 8])]
theorem x84_ok : FnE.OK Tryz.prog (Env.gam e0) 84 x84 := execFnC_ok e225_good hmix Tryz.func84 Tryz.call84 (by decide +kernel) rfl
noncomputable def e226 : Env := e225.add 84 x84
theorem e226_good : e226.Good := Env.Good.add e225_good x84_ok
/-- mandrel/move.pad -/
noncomputable def x51 : FnE := execFnC e226 Tryz.f51 7 [(6, [4, 7, 10, 11, 37, 38, 39]), (11, [4, 7, 10, 11, 14, 15, 16, 37, 38, 39, 52, 53])]
theorem x51_ok : FnE.OK Tryz.prog (Env.gam e0) 51 x51 := execFnC_ok e226_good hmix Tryz.func51 Tryz.call51 (by decide +kernel) rfl
noncomputable def e227 : Env := e226.add 51 x51
theorem e227_good : e227.Good := Env.Good.add e226_good x51_ok
/-- mandrel/move.Do -/
noncomputable def x27 : FnE := execFnC e227 Tryz.f27 7 []
theorem x27_ok : FnE.OK Tryz.prog (Env.gam e0) 27 x27 := execFnC_ok e227_good hmix Tryz.func27 Tryz.call27 (by decide +kernel) rfl
noncomputable def e228 : Env := e227.add 27 x27
theorem e228_good : e228.Good := Env.Good.add e227_good x27_ok
/-- mandrel/mandrellaw10.live -/
noncomputable def x25 : FnE := execFnC e228 Tryz.f25 6 []
theorem x25_ok : FnE.OK Tryz.prog (Env.gam e0) 25 x25 := execFnC_ok e228_good hmix Tryz.func25 Tryz.call25 (by decide +kernel) rfl
end Go.Proofs.XGT
