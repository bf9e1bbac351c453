/- Part R of the abstract machine: the executor of code and functions; its soundness. -/
import Derived.Test.YtnkhoojomojbpaaGreatDoorQ19
namespace Go.Vm
universe u
variable {R : Type}
def DY (hp : LHp) (base : Nat) : List Nat -> Nat -> Sg
 | [], _ => []
 | o :: l, j => bif Nat.blt o base then (o, o, .keep) :: DY hp base l j else (o, j, AF hp o) :: DY hp base l (j + 1)
def KO : Nat -> Nat -> List Nat
 | 0, _ => []
 | n + 1, i => i :: KO n (i + 1)
def ov (σ : Sg) : Nat -> Bool
 | 0 => true
 | n + 1 => (match σ.get n with | some (o', .keep) => Nat.beq o' n | _ => false) && ov σ n
theorem mD {σ : Sg} : ∀ {n : Nat}, ov σ n = true -> ∀ o, o < n -> σ.get o = some (o, .keep)
 | 0, _, o, ho => by omega
 | n + 1, h, o, ho => by
  simp only [ov, bg] at h
  by_cases e : o = n
  ·subst e
   obtain ⟨h1, _⟩ := h
   split at h1
   ·rename_i o' hg
    rw [hg, bo h1]
   ·cases h1
  ·exact mD h.2 o (by omega)
def rev : List Nat -> List Nat -> List Nat
 | [], acc => acc
 | a :: l, acc => rev l (a :: acc)
def x9 (hp : LHp) (base : Nat) (roots : List Nat) : Sg :=
 DY hp base (rev (ft hp db (KO base 0 ++ roots) []) []) base
def DZ (s : LSt) : List Nat -> List Nat
 | [] => []
 | x :: l => (s.fr.get x).refs ++ DZ s l
def rV (σ : Sg) : AV -> AV
 | .tup l => (match rens σ l with | some l' => .tup l' | none => .undef)
 | a => (match a.ren σ with | some a' => a' | none => .undef)
theorem ya (σ : Sg) (a : AV) : Kt σ a (rV σ a) := by
 unfold rV
 split
 ·rename_i l
  split
  ·rename_i l' h; exact .inr (.inr ⟨l, l', rfl, rfl, h⟩)
  ·exact .inl rfl
 ·split
  ·rename_i a' h; exact .inr (.inl h)
  ·exact .inl rfl
def nk (σ : Sg) (s : LSt) : List Nat -> List (Nat × AV)
 | [] => []
 | x :: l => (x, rV σ (s.fr.get x)) :: nk σ s l
theorem q8 {σ : Sg} {s : LSt} : ∀ {l : List Nat} {x : Nat} {a : AV}, (x, a) ∈ nk σ s l -> a = rV σ (s.fr.get x)
 | [], _, _, h => by cases h
 | y :: l, x, a, h => by
  simp only [nk, List.mem_cons, Prod.mk.injEq] at h
  rcases h with ⟨rfl, rfl⟩ | h
  ·rfl
  ·exact q8 h
structure Cfg where
 n : Nat
 depth : Nat
 base : Nat
 live : List (Nat × List Nat)
 rf : Bool
def XB (cf : Cfg) (s : LSt) (L : List Nat) : Option LSt :=
 let σ := x9 s.hp cf.base (DZ s L)
 bif σ.good && ov σ cf.base then
  (match j8 s.hp σ σ with
  | some bq => some ⟨aw cf.depth (nk σ s L), bq, cf.base + σ.length⟩
  | none => none)
 else none
structure CK (E : Env) (cf : Cfg) (C : Ctx) : Prop where
 gam : C.Γ = E.gam
 n : C.n = cf.n
 fit : cf.n < 2 ^ cf.depth
 pin : ∀ o ob, C.h0 o = some ob -> o < cf.base
 rf : cf.rf = true -> C.rd = none /\ C.nm = false
theorem kX (cf : Cfg) (h : cf.n < 2 ^ cf.depth) (l : List (Nat × AV)) (hp : LHp) (nx : Nat) : (⟨aw cf.depth l, hp, nx⟩ : LSt).fits cf.n := by
 intro x hx
 rw [Ao]
 exact Tr.has_full _ _ (by omega)
theorem Qn {E : Env} {cf : Cfg} {C : Ctx} (hE : E.Good) (hC : CK E cf C) {s s' : LSt} {L : List Nat} (h : XB cf s L = some s') : Le C s.toA s'.toA /\ s'.fits cf.n := by
 unfold XB at h
 simp only at h
 generalize x9 s.hp cf.base (DZ s L) = σ at h
 cases hb : σ.good && ov σ cf.base with
 | false => rw [hb] at h; cases h
 | true =>
  rw [hb] at h
  simp only [bg] at hb
  simp only [ak] at h
  split at h
  ·rename_i bq hr
   cases h
   refine ⟨Fh (σ := σ) (fun g v hv => hE.gf g v (by rw [← hC.gam]; exact hv)) (ia hb.1 hr) ?_ (fun o ob ho => mD hb.2 o (hC.pin o ob ho)), kX cf hC.fit _ _ _⟩
   intro x
   show Kt σ (s.fr.get x) ((aw cf.depth (nk σ s L)).get x)
   rcases mv cf.depth (nk σ s L) x with h | ⟨a, h1, h2⟩
   ·rw [h]; exact .inl rfl
   ·rw [h2, q8 h1]; exact ya σ _
  ·cases h
def iB : Code -> Option Nat
 | .region id _ _ => some id
 | .seq a b => (match iB a with | some i => some i | none => iB b)
 | .block _ c => iB c
 | .loop c => iB c
 | .scope c => iB c
 | .cond _ a b => (match iB a with | some i => some i | none => iB b)
 | _ => none
def nrm (cf : Cfg) (c : Code) (s : LSt) : Option LSt :=
 match iB c with
 | some id => (match lk cf.live id with | some L => XB cf s L | none => some s)
 | none => some s
theorem KP {E : Env} {cf : Cfg} {C : Ctx} (hE : E.Good) (hC : CK E cf C) {c : Code} {s s' : LSt} (hf : s.fits cf.n) (h : nrm cf c s = some s') : Le C s.toA s'.toA /\ s'.fits cf.n := by
 unfold nrm at h
 split at h
 ·split at h
  ·exact Qn hE hC h
  ·cases h; exact ⟨Le.refl _ _, hf⟩
 ·cases h; exact ⟨Le.refl _ _, hf⟩
def kG (s : LSt) : List Nat -> List (Nat × AV)
 | [] => []
 | x :: l => (x, s.fr.get x) :: kG s l
theorem tH {s : LSt} : ∀ {l : List Nat} {p : Nat × AV}, p ∈ kG s l -> p.2 = s.fr.get p.1
 | [], _, h => by cases h
 | y :: l, p, h => by
  simp only [kG, List.mem_cons] at h
  rcases h with rfl | h
  ·rfl
  ·exact tH h
def jM (cf : Cfg) (c : Code) : List Nat :=
 match iB c with
 | some id => (match lk cf.live id with | some L => L | none => [])
 | none => []
def gE (c : Operand) (s : LSt) (b : Bool) : LSt := match c with | .tmp x => s.set x (.d .bool b) | _ => s
def cA (n : Nat) : Code -> Bool
 | .region _ ops _ => cT ops n
 | .seq a b => cA n a && cA n b
 | .cond c a b => (match c with | .tmp x => Nat.blt x n | _ => true) && cA n a && cA n b
 | .block _ c => cA n c
 | .loop c => cA n c
 | .scope c => cA n c
 | _ => true
def XC (all : List Oper) (p : Tmp) : Option Tmp :=
 match all.find? (fun o => match o.dst with | some d => Nat.beq d p | none => false) with
 | some o => (match o.op with
  | .indexAddr _ (.tmp y) _ =>
   (match all.find? (fun o => match o.dst with | some d => Nat.beq d y | none => false) with
   | some o' => (match o'.op with | .move (.tmp z) => some z | _ => some y)
   | none => some y)
  | _ => none)
 | none => none
def yb (all : List Oper) (s : LSt) : List Oper -> List Nat
 | [] => []
 | o :: l =>
  match o.op with
  | .fieldAddr _ (.tmp p) _ =>
   (match XC all p with
   | some z => (match s.fr.get z with
    | .os q _ => (match az s.hp q with | some (.arr _ e _ false _) => bif tc e then q :: yb all s l else yb all s l | _ => yb all s l)
    | _ => yb all s l)
   | none => yb all s l)
  | _ => yb all s l
def AN (all : List Oper) (s : LSt) : LSt := ⟨s.fr, bZ s.hp (yb all s all) ++ s.hp, s.nx⟩
theorem KQ {C : Ctx} (all : List Oper) (s : LSt) : Le C s.toA (AN all s).toA := by
 have h := Ar (C := C) (s := s.toA) (hp := s.hp) rfl (yb all s all)
 have e : (AN all s).toA = ⟨s.toA.fr, aG s.toA.hp (bZ s.hp (yb all s all))⟩ := by
  unfold AN LSt.toA
  simp only [bj]
 rw [e]; exact h
def ex (E : Env) (cf : Cfg) : Code -> {R : Type} -> LSt -> (AEx -> LSt -> Option R) -> Option R
 | .skip, _, s, k => k .normal s
 | .label _, _, s, k => k .normal s
 | .ret, _, s, k => k .ret s
 | .exit id, _, s, k => k (.exit id) s
 | .region _ ops dr, _, s, k =>
  bif dr then vB E cf.n ops ops.toList (AN ops.toList s) [] (fun s' => k .normal s') (fun t m s' => k (.panic t m) s')
  else AJ E cf.n ops ops.toList s (fun s' => k .normal s') (fun t m s' => k (.panic t m) s')
 | .seq a b, _, s, k => ex E cf a s fun e s' =>
  match e with
  | .normal => ex E cf b s' k
  | .exit id => k (.exit id) s'
  | .ret => k .ret s'
  | .panic t m => k (.panic t m) s'
 | .cond c a b, _, s, k =>
  (match s.ev E c with
  | .d .bool v => bif v then ex E cf a (gE c s true) k else ex E cf b (gE c s false) k
  | _ => none)
 | .block id c, _, s, k => ex E cf c s fun e s' =>
  match e with
  | .normal => k .normal s'
  | .exit i => bif Nat.beq i id then k .normal s' else k (.exit i) s'
  | .ret => k .ret s'
  | .panic t m => k (.panic t m) s'
 | .loop c, _, s, k =>
  (match nrm cf c s with
  | some s0 =>
   (sX (fun st => ex E cf c st fun e s' =>
    match e with
    | .normal => (match nrm cf c s' with | some rl => some (.next rl) | none => none)
    | .exit id => some (.done ((AEx.exit id, s') : AEx × LSt))
    | .ret => some (.done (AEx.ret, s'))
    | .panic t m => some (.done (AEx.panic t m, s'))) fu s0).bind fun es => k es.1 es.2
  | none => none)
 | .rangeFunc fop ps assign body, _, s, k =>
  bif cf.rf then
   (match s.ev E fop with
   | .fn (.func f) [] cap =>
    (match lk E.calls f, az s.hp s.nx with
    | some g, none =>
     let iS : LHp := (s.nx, .rc (.loop ⟨cf.depth, ps, assign, body, cf.n⟩ (kG s (jM cf assign)) .ready)) :: s.hp
     mA g (.ref s.nx :: cap) ⟨s.fr, iS, s.nx + 1⟩
      (fun e =>
       match az (e.wr ++ iS) s.nx with
       | some (.rc (.loop oQ oR st)) =>
        (match st with
        | .ready => k .normal ⟨s.fr, (s.nx, .rc (.loop oQ oR .over)) :: (e.wr ++ iS), e.nx⟩
        | .done .ret => k .ret ⟨s.fr, (s.nx, .rc (.loop oQ oR .over)) :: (e.wr ++ iS), e.nx⟩
        | .done (.exit id) => k (.exit id) ⟨s.fr, (s.nx, .rc (.loop oQ oR .over)) :: (e.wr ++ iS), e.nx⟩
        | _ => none)
       | _ => none)
      (fun t m wr => k (.panic t m) ⟨s.fr, wr ++ iS, s.nx + 1⟩)
    | _, _ => none)
   | _ => none)
  else none
 | _, _, _, _ => none
def XD (C : Ctx) (n : Nat) (k : AEx -> LSt -> Option R) (r : R) : AEx -> ASt -> Prop := fun e s => ∃ st : LSt, Le C s st.toA /\ st.fits n /\ k e st = some r
theorem tI {E : Env} {c : Operand} {s : LSt} {n : Nat} {b : Bool} (hf : s.fits n) (hc : (match c with | .tmp x => Nat.blt x n | _ => true) = true) (h : s.ev E c = .d .bool b) : (gE c s b).toA = s.toA /\ (gE c s b).fits n := by
 unfold gE
 cases c with
 | tmp x => exact ⟨o7 hf (Nat.le_of_ble_eq_true hc) h, gD hf _ _⟩
 | const v => exact ⟨rfl, hf⟩
 | global g => exact ⟨rfl, hf⟩
 | func f => exact ⟨rfl, hf⟩
theorem KR {P : Program} {C : Ctx} {n : Nat} {body : Code} {B : LSt -> Option (Stp LSt (AEx × LSt))} {Q : AEx -> ASt -> Prop} : ∀ (m : Nat) (s0 : LSt) (es : AEx × LSt), sX B m s0 = some es -> s0.fits n ->
  (∀ (st : LSt) (o : Stp LSt (AEx × LSt)), st.fits n -> B st = some o -> AW P C body (fun e s' => match o with
   | .next rl => e = .normal /\ Le C s' rl.toA /\ rl.fits n
   | .done es => e ≠ .normal /\ e = es.1 /\ Le C s' es.2.toA /\ es.2.fits n) st.toA) ->
  (∀ s', Le C s' es.2.toA -> es.2.fits n -> es.1 ≠ .normal -> Q es.1 s') -> AW P C (.loop body) Q s0.toA := by
 intro m s0 es h hf round hq
 refine P3 (J := fun j s => ∃ st : LSt, s = st.toA /\ st.fits n /\ sX B j st = some es) ⟨s0, rfl, hf, h⟩ ?_
 rintro j s ⟨st, rfl, kO, hj⟩
 cases j with
 | zero => cases hj
 | succ j =>
  simp only [sX] at hj
  cases hB : B st with
  | none => rw [hB] at hj; cases hj
  | some o =>
   rw [hB] at hj
   refine rT (round st o kO hB) ?_
   intro e s' hp
   cases o with
   | next rl =>
    obtain ⟨rfl, hle, hf2⟩ := hp
    exact ⟨j, rl.toA, Nat.lt_succ_self _, hle, rl, rfl, hf2, hj⟩
   | done E7 =>
    simp only [Option.some.injEq] at hj
    subst hj
    obtain ⟨lC, rfl, hle, hf2⟩ := hp
    have := hq s' hle hf2 lC
    generalize E7.1 = e at this lC
    cases e with
    | normal => exact (lC rfl).elim
    | exit id => exact this
    | ret => exact this
    | panic t m => exact this
theorem wH {E : Env} {cf : Cfg} {C : Ctx} (hE : E.Good) (bX : E.P.follows .mixedOrders = true) (hC : CK E cf C) : ∀ (c : Code) {R : Type} (s : LSt) (k : AEx -> LSt -> Option R) (r : R), cA cf.n c = true -> s.fits cf.n -> ex E cf c s k = some r -> AW E.P C c (XD C cf.n k r) s.toA := by
 intro c
 induction c with
 | skip => intro R s k r _ hf h; exact P0 ⟨s, Le.refl _ _, hf, h⟩
 | label l => intro R s k r _ hf h; exact Kg ⟨s, Le.refl _ _, hf, h⟩
 | ret => intro R s k r _ hf h; exact Xg ⟨s, Le.refl _ _, hf, h⟩
 | exit id => intro R s k r _ hf h; exact P1 ⟨s, Le.refl _ _, hf, h⟩
 | region id ops dr =>
  intro R s k r hd hf h
  have hdst : cT ops C.n = true := by rw [hC.n]; exact hd
  cases dr with
  | true => exact jt (KQ ops.toList s) <| rz _ bX hdst (x8 (C := C) (Q := XD C cf.n k r) hE hC.gam hC.n hdst ops.toList 0 (AN ops.toList s) [] (fun s' => k .normal s') (fun t m s' => k (.panic t m) s') rfl (Nat.zero_le _) rfl hf h (fun t m s' hk oS => ⟨s', Le.refl _ _, oS, hk⟩) (fun C6 oS hk => ⟨C6, Le.refl _ _, oS, hk⟩))
  | false => exact HE (x6 (C := C) (Q := XD C cf.n k r) hE hC.gam hC.n hdst ops.toList 0 s (fun s' => k .normal s') (fun t m s' => k (.panic t m) s') rfl (Nat.zero_le _) hf h (fun t m s' hk oS => ⟨s', Le.refl _ _, oS, hk⟩) (fun C6 oS hk => ⟨C6, Le.refl _ _, oS, hk⟩))
 | seq a b vq vO =>
  intro R s k r hd hf h
  simp only [cA, bg] at hd
  refine Xh (rT (vq s _ r hd.1 hf h) ?_)
  rintro e s' ⟨st, hle, oS, hk⟩
  cases e with
  | normal => exact jt hle (vO st k r hd.2 oS hk)
  | exit id => exact ⟨st, hle, oS, hk⟩
  | ret => exact ⟨st, hle, oS, hk⟩
  | panic t m => exact ⟨st, hle, oS, hk⟩
 | cond c a b vq vO =>
  intro R s k r hd hf h
  simp only [cA, bg] at hd
  simp only [ex] at h
  split at h
  ·rename_i v hv
   refine P2 (b := v) ((bN hC.gam s c).trans hv) ?_ ?_
   ·rintro rfl
    obtain ⟨e1, f1⟩ := tI hf hd.1.1 hv
    have := vq _ k r hd.1.2 f1 h
    rw [e1] at this; exact this
   ·rintro rfl
    obtain ⟨e1, f1⟩ := tI hf hd.1.1 hv
    have := vO _ k r hd.2 f1 h
    rw [e1] at this; exact this
  ·cases h
 | block id c ih =>
  intro R s k r hd hf h
  refine Kh (rT (ih s _ r hd hf h) ?_)
  rintro e s' ⟨st, hle, oS, hk⟩
  cases e with
  | normal => exact ⟨st, hle, oS, hk⟩
  | ret => exact ⟨st, hle, oS, hk⟩
  | panic t m => exact ⟨st, hle, oS, hk⟩
  | exit i =>
   simp only at hk
   simp only [AEx.inBlk]
   cases hb : Nat.beq i id with
   | true => rw [hb] at hk; exact ⟨st, hle, oS, hk⟩
   | false => rw [hb] at hk; exact ⟨st, hle, oS, hk⟩
 | loop c ih =>
  intro R s k r hd hf h
  simp only [ex] at h
  split at h
  ·rename_i s0 hs0
   obtain ⟨hle0, hf0⟩ := KP hE hC hf hs0
   obtain ⟨es, hes, hk⟩ := aS h
   refine jt hle0 (KR fu s0 es hes hf0 ?_ (fun s' hle oS _ => ⟨es.2, hle, oS, hk⟩))
   intro st o kO hB
   refine rT (ih st _ o hd kO hB) ?_
   rintro e s' ⟨C6, hle, oS, PZ⟩
   cases e with
   | normal =>
    simp only at PZ
    split at PZ
    ·rename_i rl hs''
     cases PZ
     obtain ⟨hle2, hf2⟩ := KP hE hC oS hs''
     exact ⟨rfl, hle.trans hle2, hf2⟩
    ·cases PZ
   | exit id => cases PZ; exact ⟨by simp, rfl, hle, oS⟩
   | ret => cases PZ; exact ⟨by simp, rfl, hle, oS⟩
   | panic t m => cases PZ; exact ⟨by simp, rfl, hle, oS⟩
  ·cases h
 | rangeFunc fop ps assign body _ _ =>
  intro R s k r hd hf h
  simp only [ex] at h
  cases hrf : cf.rf with
  | false => rw [hrf] at h; cases h
  | true =>
   rw [hrf] at h
   simp only [ak] at h
   obtain ⟨C4, hnm⟩ := hC.rf hrf
   split at h
   ·rename_i f cap hx
    split at h
    ·rename_i g hg h0
     obtain ⟨σ, dc, args', hs, ae, aF, wr, c1, c2, c3, c4, c5, c6⟩ := tB (hE.calls _ (fy hg)) h
     have hGF : fc C := fun gg v hv => hE.gf gg v (by rw [← hC.gam]; exact hv)
     rw [← hC.gam] at c3
     have e1 : az ((s.nx, al.rc (.loop ⟨cf.depth, ps, assign, body, cf.n⟩ (kG s (jM cf assign)) .ready)) :: s.hp) = aG (az s.hp) [(s.nx, .rc (.loop ⟨cf.depth, ps, assign, body, cf.n⟩ (kG s (jM cf assign)) .ready))] := bj [_] s.hp
     rw [e1] at c2 c4
     refine xN (o := s.nx) (d := cf.depth) hGF hnm C4 ((bN hC.gam s fop).trans hx) h0 (fun p hp => tH hp) (by rw [hC.n]) c1 c2 c3 c4 ?_ ?_
     ·intro rs rS
      rcases c6 with ⟨rs1, fO, e2, _, hk⟩ | ⟨t, n, e2, _⟩
      ·simp only at hk
       split at hk
       ·rename_i oQ oR st kO
        rw [bj, e1] at kO
        refine ⟨oQ, oR, st, kO, ?_⟩
        have hle : ∀ nx, Le C ⟨s.fr.get, aG (aG (aG (az s.hp) [(s.nx, .rc (.loop ⟨cf.depth, ps, assign, body, cf.n⟩ (kG s (jM cf assign)) .ready))]) wr) [(s.nx, .rc (.loop oQ oR .over))]⟩
          (⟨s.fr, (s.nx, .rc (.loop oQ oR .over)) :: (wr ++ ((s.nx, al.rc (.loop ⟨cf.depth, ps, assign, body, cf.n⟩ (kG s (jM cf assign)) .ready)) :: s.hp)), nx⟩ : LSt).toA := fun nx => by
         rw [← e1, ← bj, ← bj]
         exact Le.refl _ _
        split at hk
        ·exact ⟨_, hle _, hf, hk⟩
        ·exact ⟨_, hle _, hf, hk⟩
        ·exact ⟨_, hle _, hf, hk⟩
        ·cases hk
       ·cases hk
      ·rw [e2] at rS; cases rS
     ·intro t n hp
      rcases c6 with ⟨rs1, fO, e2, _, _⟩ | ⟨t', n', e2, hk⟩
      ·rw [e2] at hp; cases hp
      ·rw [e2] at hp
       cases hp
       refine ⟨⟨s.fr, wr ++ _, s.nx + 1⟩, ?_, hf, hk⟩
       show Le C _ (LSt.toA _)
       unfold LSt.toA
       simp only
       rw [bj, e1]
       exact Le.refl _ _
    ·cases h
   ·cases h
 | _ => intro R s k r _ _ h; cases h
end Go.Vm
