/- Part R of the abstract machine: the executor of code and functions; its soundness. -/
import Derived.Test.YtnkhoojomojbpaaGreatDoorK19
namespace Go.Vm
universe u
variable {R : Type}
def DJ (hp : LHp) (base : Nat) : List Nat -> Nat -> Sg
 | [], _ => []
 | o :: l, j => bif Nat.blt o base then (o, o, .keep) :: DJ hp base l j else (o, j, Aj hp o) :: DJ hp base l (j + 1)
def KI : Nat -> Nat -> List Nat
 | 0, _ => []
 | n + 1, i => i :: KI n (i + 1)
def nJ (σ : Sg) : Nat -> Bool
 | 0 => true
 | n + 1 => (match σ.get n with | some (o', .keep) => Nat.beq o' n | _ => false) && nJ σ n
theorem lT {σ : Sg} : ∀ {n : Nat}, nJ σ n = true -> ∀ o, o < n -> σ.get o = some (o, .keep)
 | 0, _, o, ho => by omega
 | n + 1, h, o, ho => by
  simp only [nJ, ba] at h
  by_cases e : o = n
  ·grind [bj]
  ·exact lT h.2 o (by omega)
def rev : List Nat -> List Nat -> List Nat
 | [], acc => acc
 | a :: l, acc => rev l (a :: acc)
def xw (hp : LHp) (base : Nat) (roots : List Nat) : Sg :=
 DJ hp base (rev (fb hp cF (KI base 0 ++ roots) []) []) base
def DK (s : LSt) : List Nat -> List Nat
 | [] => []
 | x :: l => (s.fr.get x).refs ++ DK s l
def re (σ : Sg) : AV -> AV
 | .tup l => (match rens σ l with | some l' => .tup l' | none => .undef)
 | a => (match a.ren σ with | some a' => a' | none => .undef)
theorem xx (σ : Sg) (a : AV) : Kn σ a (re σ a) := by
 unfold re
 split
 ·rename_i l
  split
  ·rename_i l' h; exact .inr (.inr ⟨l, l', rfl, rfl, h⟩)
  ·exact .inl rfl
 ·split
  ·rename_i a' h; exact .inr (.inl h)
  ·exact .inl rfl
def mG (σ : Sg) (s : LSt) : List Nat -> List (Nat × AV)
 | [] => []
 | x :: l => (x, re σ (s.fr.get x)) :: mG σ s l
theorem qt {σ : Sg} {s : LSt} : ∀ {l : List Nat} {x : Nat} {a : AV}, (x, a) ∈ mG σ s l -> a = re σ (s.fr.get x)
 | [], _, _, h => by cases h
 | y :: l, x, a, h => by
  simp only [mG, List.mem_cons, Prod.mk.injEq] at h
  rcases h with ⟨rfl, rfl⟩ | h
  ·rfl
  ·exact qt h
structure Cfg where
 n : Nat
 depth : Nat
 base : Nat
 live : List (Nat × List Nat)
 rf : Bool
def ou (cf : Cfg) (s : LSt) (L : List Nat) : Option LSt :=
 let σ := xw s.hp cf.base (DK s L)
 bif σ.good && nJ σ cf.base then
  (match jO s.hp σ σ with
  | some bp => some ⟨aw cf.depth (mG σ s L), bp, cf.base + σ.length⟩
  | none => none)
 else none
structure CK (E : Env) (cf : Cfg) (C : Ctx) : Prop where
 gam : C.Γ = E.gam
 n : C.n = cf.n
 fit : cf.n < 2 ^ cf.depth
 pin : ∀ o ob, C.h0 o = some ob -> o < cf.base
 rf : cf.rf = true -> C.rd = none /\ C.nm = false
theorem ku (cf : Cfg) (h : cf.n < 2 ^ cf.depth) (l : List (Nat × AV)) (hp : LHp) (nx : Nat) : (⟨aw cf.depth l, hp, nx⟩ : LSt).fits cf.n := by
 intro x hx
 grind [zY, Tr.has_full]
theorem Qs {E : Env} {cf : Cfg} {C : Ctx} (hE : E.Good) (hC : CK E cf C) {s s' : LSt} {L : List Nat} (h : ou cf s L = some s') : Le C s.toA s'.toA /\ s'.fits cf.n := by
 unfold ou at h
 simp only at h
 generalize xw s.hp cf.base (DK s L) = σ at h
 cases hb : σ.good && nJ σ cf.base with
 | false => rw [hb] at h; cases h
 | true =>
  rw [hb] at h
  simp only [ba] at hb
  simp only [ai] at h
  split at h
  ·rename_i bp hr
   cases h
   refine ⟨E7 (σ := σ) (fun g v hv => hE.gf g v (by rw [← hC.gam]; exact hv)) (gJ hb.1 hr) ?_ (fun o ob ho => lT hb.2 o (hC.pin o ob ho)), ku cf hC.fit _ _ _⟩
   intro x
   show Kn σ (s.fr.get x) ((aw cf.depth (mG σ s L)).get x)
   rcases lN cf.depth (mG σ s L) x with h | ⟨a, h1, h2⟩
   ·rw [h]; exact .inl rfl
   ·rw [h2, qt h1]; exact xx σ _
  ·cases h
def ia : Code -> Option Nat
 | .region id _ _ => some id
 | .seq a b => (match ia a with | some i => some i | none => ia b)
 | .block _ c => ia c
 | .loop c => ia c
 | .scope c => ia c
 | .cond _ a b => (match ia a with | some i => some i | none => ia b)
 | _ => none
def nrm (cf : Cfg) (c : Code) (s : LSt) : Option LSt :=
 match ia c with
 | some id => (match lk cf.live id with | some L => ou cf s L | none => some s)
 | none => some s
theorem KJ {E : Env} {cf : Cfg} {C : Ctx} (hE : E.Good) (hC : CK E cf C) {c : Code} {s s' : LSt} (hf : s.fits cf.n) (h : nrm cf c s = some s') : Le C s.toA s'.toA /\ s'.fits cf.n := by
 grind [nrm, Qs, Le.refl]
def j9 (s : LSt) : List Nat -> List (Nat × AV)
 | [] => []
 | x :: l => (x, s.fr.get x) :: j9 s l
theorem sJ {s : LSt} : ∀ {l : List Nat} {p : Nat × AV}, p ∈ j9 s l -> p.2 = s.fr.get p.1
 | [], _, h => by cases h
 | y :: l, p, h => by
  simp only [j9, List.mem_cons] at h
  rcases h with rfl | h
  ·rfl
  ·exact sJ h
def jv (cf : Cfg) (c : Code) : List Nat :=
 match ia c with
 | some id => (match lk cf.live id with | some L => L | none => [])
 | none => []
def fU (c : Operand) (s : LSt) (b : Bool) : LSt := match c with | .tmp x => s.set x (.d .bool b) | _ => s
def b7 (n : Nat) : Code -> Bool
 | .region _ ops _ => cz ops n
 | .seq a b => b7 n a && b7 n b
 | .cond c a b => (match c with | .tmp x => Nat.blt x n | _ => true) && b7 n a && b7 n b
 | .block _ c => b7 n c
 | .loop c => b7 n c
 | .scope c => b7 n c
 | _ => true
def XF (all : List Oper) (p : Tmp) : Option Tmp :=
 match all.find? (fun o => match o.dst with | some d => Nat.beq d p | none => false) with
 | some o => (match o.op with
  | .indexAddr _ (.tmp y) _ =>
   (match all.find? (fun o => match o.dst with | some d => Nat.beq d y | none => false) with
   | some o' => (match o'.op with | .move (.tmp z) => some z | _ => some y)
   | none => some y)
  | _ => none)
 | none => none
def xy (all : List Oper) (s : LSt) : List Oper -> List Nat
 | [] => []
 | o :: l =>
  match o.op with
  | .fieldAddr _ (.tmp p) _ =>
   (match XF all p with
   | some z => (match s.fr.get z with
    | .os q _ => (match aA s.hp q with | some (.arr _ e _ false _) => bif vv e then q :: xy all s l else xy all s l | _ => xy all s l)
    | _ => xy all s l)
   | none => xy all s l)
  | _ => xy all s l
def Fh (all : List Oper) (s : LSt) : LSt := ⟨s.fr, bR s.hp (xy all s all) ++ s.hp, s.nx⟩
theorem KK {C : Ctx} (all : List Oper) (s : LSt) : Le C s.toA (Fh all s).toA := by
 have h := z7 (C := C) (s := s.toA) (hp := s.hp) rfl (xy all s all)
 grind [Fh, aG, bR, xy, LSt.toA, a8]
def ex (E : Env) (cf : Cfg) : Code -> {R : Type} -> LSt -> (AEx -> LSt -> Option R) -> Option R
 | .skip, _, s, k => k .normal s
 | .label _, _, s, k => k .normal s
 | .ret, _, s, k => k .ret s
 | .exit id, _, s, k => k (.exit id) s
 | .region _ ops dr, _, s, k =>
  bif dr then uL E cf.n ops ops.toList (Fh ops.toList s) [] (fun s' => k .normal s') (fun t m s' => k (.panic t m) s')
  else An E cf.n ops ops.toList s (fun s' => k .normal s') (fun t m s' => k (.panic t m) s')
 | .seq a b, _, s, k => ex E cf a s fun e s' =>
  match e with
  | .normal => ex E cf b s' k
  | .exit id => k (.exit id) s'
  | .ret => k .ret s'
  | .panic t m => k (.panic t m) s'
 | .cond c a b, _, s, k =>
  (match s.ev E c with
  | .d .bool v => bif v then ex E cf a (fU c s true) k else ex E cf b (fU c s false) k
  | _ => none)
 | .block id c, _, s, k => ex E cf c s fun e s' =>
  match e with
  | .normal => k .normal s'
  | .exit i => bif Nat.beq i id then k .normal s' else k (.exit i) s'
  | .ret => k .ret s'
  | .panic t m => k (.panic t m) s'
 | .loop c, _, s, k =>
  (match nrm cf c s with
  | some s0 =>
   (r7 (fun st => ex E cf c st fun e s' =>
    match e with
    | .normal => (match nrm cf c s' with | some qD => some (.next qD) | none => none)
    | .exit id => some (.done ((AEx.exit id, s') : AEx × LSt))
    | .ret => some (.done (AEx.ret, s'))
    | .panic t m => some (.done (AEx.panic t m, s'))) fu s0).bind fun es => k es.1 es.2
  | none => none)
 | .rangeFunc fop ps assign body, _, s, k =>
  bif cf.rf then
   (match s.ev E fop with
   | .fn (.func f) [] cap =>
    (match lk E.calls f, aA s.hp s.nx with
    | some g, none =>
     let iQ : LHp := (s.nx, .rc (.loop ⟨cf.depth, ps, assign, body, cf.n⟩ (j9 s (jv cf assign)) .ready)) :: s.hp
     lR g (.ref s.nx :: cap) ⟨s.fr, iQ, s.nx + 1⟩
      (fun e =>
       match aA (e.wr ++ iQ) s.nx with
       | some (.rc (.loop n1 n2 st)) =>
        (match st with
        | .ready => k .normal ⟨s.fr, (s.nx, .rc (.loop n1 n2 .over)) :: (e.wr ++ iQ), e.nx⟩
        | .done .ret => k .ret ⟨s.fr, (s.nx, .rc (.loop n1 n2 .over)) :: (e.wr ++ iQ), e.nx⟩
        | .done (.exit id) => k (.exit id) ⟨s.fr, (s.nx, .rc (.loop n1 n2 .over)) :: (e.wr ++ iQ), e.nx⟩
        | _ => none)
       | _ => none)
      (fun t m wr => k (.panic t m) ⟨s.fr, wr ++ iQ, s.nx + 1⟩)
    | _, _ => none)
   | _ => none)
  else none
 | _, _, _, _ => none
def XG (C : Ctx) (n : Nat) (k : AEx -> LSt -> Option R) (r : R) : AEx -> ASt -> Prop := fun e s => ∃ st : LSt, Le C s st.toA /\ st.fits n /\ k e st = some r
theorem sK {E : Env} {c : Operand} {s : LSt} {n : Nat} {b : Bool} (hf : s.fits n) (hc : (match c with | .tmp x => Nat.blt x n | _ => true) = true) (h : s.ev E c = .d .bool b) : (fU c s b).toA = s.toA /\ (fU c s b).fits n := by
 unfold fU
 cases c with
 | tmp x => exact ⟨oq hf (Nat.le_of_ble_eq_true hc) h, fT hf _ _⟩
 | const v => exact ⟨rfl, hf⟩
 | global g => exact ⟨rfl, hf⟩
 | func f => exact ⟨rfl, hf⟩
theorem KL {P : Program} {C : Ctx} {n : Nat} {body : Code} {B : LSt -> Option (Stp LSt (AEx × LSt))} {Q : AEx -> ASt -> Prop} : ∀ (m : Nat) (s0 : LSt) (es : AEx × LSt), r7 B m s0 = some es -> s0.fits n ->
  (∀ (st : LSt) (o : Stp LSt (AEx × LSt)), st.fits n -> B st = some o -> AW P C body (fun e s' => match o with
   | .next qD => e = .normal /\ Le C s' qD.toA /\ qD.fits n
   | .done es => e ≠ .normal /\ e = es.1 /\ Le C s' es.2.toA /\ es.2.fits n) st.toA) ->
  (∀ s', Le C s' es.2.toA -> es.2.fits n -> es.1 ≠ .normal -> Q es.1 s') -> AW P C (.loop body) Q s0.toA := by
 intro m s0 es h hf round hq
 refine P6 (J := fun j s => ∃ st : LSt, s = st.toA /\ st.fits n /\ r7 B j st = some es) ⟨s0, rfl, hf, h⟩ ?_
 rintro j s ⟨st, rfl, kf, hj⟩
 cases j with
 | zero => cases hj
 | succ j =>
  simp only [r7] at hj
  cases hB : B st with
  | none => rw [hB] at hj; cases hj
  | some o =>
   rw [hB] at hj
   refine q9 (round st o kf hB) ?_
   intro e s' hp
   cases o with
   | next qD =>
    obtain ⟨rfl, hle, hf2⟩ := hp
    exact ⟨j, qD.toA, Nat.lt_succ_self _, hle, qD, rfl, hf2, hj⟩
   | done EW =>
    simp only [Option.some.injEq] at hj
    subst hj
    obtain ⟨j2, rfl, hle, hf2⟩ := hp
    have := hq s' hle hf2 j2
    generalize EW.1 = e at this j2
    cases e with
    | normal => exact (j2 rfl).elim
    | exit id => exact this
    | ret => exact this
    | panic t m => exact this
theorem vM {E : Env} {cf : Cfg} {C : Ctx} (hE : E.Good) (bO : E.P.follows .mixedOrders = true) (hC : CK E cf C) : ∀ (c : Code) {R : Type} (s : LSt) (k : AEx -> LSt -> Option R) (r : R), b7 cf.n c = true -> s.fits cf.n -> ex E cf c s k = some r -> AW E.P C c (XG C cf.n k r) s.toA := by
 intro c
 induction c with
 | skip => intro R s k r _ hf h; exact P3 ⟨s, Le.refl _ _, hf, h⟩
 | label l => intro R s k r _ hf h; exact Ka ⟨s, Le.refl _ _, hf, h⟩
 | ret => intro R s k r _ hf h; exact Xl ⟨s, Le.refl _ _, hf, h⟩
 | exit id => intro R s k r _ hf h; exact P4 ⟨s, Le.refl _ _, hf, h⟩
 | region id ops dr =>
  intro R s k r hd hf h
  have hdst : cz ops C.n = true := by rw [hC.n]; exact hd
  cases dr with
  | true => exact iZ (KK ops.toList s) <| qH _ bO hdst (xv (C := C) (Q := XG C cf.n k r) hE hC.gam hC.n hdst ops.toList 0 (Fh ops.toList s) [] (fun s' => k .normal s') (fun t m s' => k (.panic t m) s') rfl (Nat.zero_le _) rfl hf h (fun t m s' hk pA => ⟨s', Le.refl _ _, pA, hk⟩) (fun CQ pA hk => ⟨CQ, Le.refl _ _, pA, hk⟩))
  | false => exact Hu (xr (C := C) (Q := XG C cf.n k r) hE hC.gam hC.n hdst ops.toList 0 s (fun s' => k .normal s') (fun t m s' => k (.panic t m) s') rfl (Nat.zero_le _) hf h (fun t m s' hk pA => ⟨s', Le.refl _ _, pA, hk⟩) (fun CQ pA hk => ⟨CQ, Le.refl _ _, pA, hk⟩))
 | seq a b wQ zi =>
  intro R s k r hd hf h
  simp only [b7, ba] at hd
  refine Xm (q9 (wQ s _ r hd.1 hf h) ?_)
  rintro e s' ⟨st, hle, pA, hk⟩
  cases e with
  | normal => exact iZ hle (zi st k r hd.2 pA hk)
  | exit id => exact ⟨st, hle, pA, hk⟩
  | ret => exact ⟨st, hle, pA, hk⟩
  | panic t m => exact ⟨st, hle, pA, hk⟩
 | cond c a b wQ zi =>
  intro R s k r hd hf h
  simp only [b7, ba] at hd
  simp only [ex] at h
  split at h
  ·rename_i v hv
   refine P5 (b := v) ((bC hC.gam s c).trans hv) ?_ ?_
   ·rintro rfl
    obtain ⟨e1, f1⟩ := sK hf hd.1.1 hv
    grind
   ·rintro rfl
    obtain ⟨e1, f1⟩ := sK hf hd.1.1 hv
    grind
  ·cases h
 | block id c ih =>
  intro R s k r hd hf h
  refine Kb (q9 (ih s _ r hd hf h) ?_)
  rintro e s' ⟨st, hle, pA, hk⟩
  cases e with
  | normal => exact ⟨st, hle, pA, hk⟩
  | ret => exact ⟨st, hle, pA, hk⟩
  | panic t m => exact ⟨st, hle, pA, hk⟩
  | exit i =>
   simp only at hk
   simp only [AEx.inBlk]
   cases hb : Nat.beq i id with
   | true => rw [hb] at hk; exact ⟨st, hle, pA, hk⟩
   | false => rw [hb] at hk; exact ⟨st, hle, pA, hk⟩
 | loop c ih =>
  intro R s k r hd hf h
  simp only [ex] at h
  split at h
  ·rename_i s0 J7
   obtain ⟨hle0, hf0⟩ := KJ hE hC hf J7
   obtain ⟨es, hes, hk⟩ := aS h
   refine iZ hle0 (KL fu s0 es hes hf0 ?_ (fun s' hle pA _ => ⟨es.2, hle, pA, hk⟩))
   intro st o kf hB
   refine q9 (ih st _ o hd kf hB) ?_
   rintro e s' ⟨CQ, hle, pA, P2⟩
   cases e with
   | normal =>
    simp only at P2
    split at P2
    ·rename_i qD hs''
     cases P2
     obtain ⟨hle2, hf2⟩ := KJ hE hC pA hs''
     exact ⟨rfl, hle.trans hle2, hf2⟩
    ·cases P2
   | exit id => cases P2; exact ⟨by simp, rfl, hle, pA⟩
   | ret => cases P2; exact ⟨by simp, rfl, hle, pA⟩
   | panic t m => cases P2; exact ⟨by simp, rfl, hle, pA⟩
  ·cases h
 | rangeFunc fop ps assign body _ _ =>
  intro R s k r hd hf h
  simp only [ex] at h
  cases hrf : cf.rf with
  | false => rw [hrf] at h; cases h
  | true =>
   rw [hrf] at h
   simp only [ai] at h
   obtain ⟨CP, hnm⟩ := hC.rf hrf
   split at h
   ·rename_i f cap hx
    split at h
    ·rename_i g hg h0
     obtain ⟨σ, cI, args', hs, ae, aH, wr, c1, c2, c3, c4, c5, c6⟩ := sD (hE.calls _ (fh hg)) h
     have hGF : eE C := fun gg v hv => hE.gf gg v (by rw [← hC.gam]; exact hv)
     rw [← hC.gam] at c3
     have e1 : aA ((s.nx, aj.rc (.loop ⟨cf.depth, ps, assign, body, cf.n⟩ (j9 s (jv cf assign)) .ready)) :: s.hp) = aG (aA s.hp) [(s.nx, .rc (.loop ⟨cf.depth, ps, assign, body, cf.n⟩ (j9 s (jv cf assign)) .ready))] := a8 [_] s.hp
     rw [e1] at c2 c4
     refine xb (o := s.nx) (d := cf.depth) hGF hnm CP ((bC hC.gam s fop).trans hx) h0 (fun p hp => sJ hp) (by rw [hC.n]) c1 c2 c3 c4 ?_ ?_
     ·intro rs u7
      rcases c6 with ⟨rs1, fQ, e2, _, hk⟩ | ⟨t, n, e2, _⟩
      ·simp only at hk
       split at hk
       ·rename_i n1 n2 st kf
        rw [a8, e1] at kf
        refine ⟨n1, n2, st, kf, ?_⟩
        have hle : ∀ nx, Le C ⟨s.fr.get, aG (aG (aG (aA s.hp) [(s.nx, .rc (.loop ⟨cf.depth, ps, assign, body, cf.n⟩ (j9 s (jv cf assign)) .ready))]) wr) [(s.nx, .rc (.loop n1 n2 .over))]⟩
          (⟨s.fr, (s.nx, .rc (.loop n1 n2 .over)) :: (wr ++ ((s.nx, aj.rc (.loop ⟨cf.depth, ps, assign, body, cf.n⟩ (j9 s (jv cf assign)) .ready)) :: s.hp)), nx⟩ : LSt).toA := fun nx => by
         rw [← e1, ← a8, ← a8]
         exact Le.refl _ _
        split at hk
        ·exact ⟨_, hle _, hf, hk⟩
        ·exact ⟨_, hle _, hf, hk⟩
        ·exact ⟨_, hle _, hf, hk⟩
        ·cases hk
       ·cases hk
      ·rw [e2] at u7; cases u7
     ·intro t n hp
      rcases c6 with ⟨rs1, fQ, e2, _, _⟩ | ⟨t', n', e2, hk⟩
      ·rw [e2] at hp; cases hp
      ·rw [e2] at hp
       cases hp
       refine ⟨⟨s.fr, wr ++ _, s.nx + 1⟩, ?_, hf, hk⟩
       show Le C _ (LSt.toA _)
       unfold LSt.toA
       simp only
       rw [a8, e1]
       exact Le.refl _ _
    ·cases h
   ·cases h
 | _ => intro R s k r _ _ h; cases h
end Go.Vm
