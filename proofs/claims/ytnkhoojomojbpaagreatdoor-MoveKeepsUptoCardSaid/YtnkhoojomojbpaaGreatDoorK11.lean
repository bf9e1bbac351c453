/- Part K of the abstract machine: the call of a function; a function's body; a state under other names; an array that turns no more. -/
import Derived.Test.YtnkhoojomojbpaaGreatDoorK10
import Derived.RangeFuncRecord
namespace Go.Vm
section
variable {P : Program} {C : Ctx} {s : ASt}
theorem vo {σ : Sg} {a a' : AV} (h : a.ren σ = some a') : a.plain = true := by cases a <;> first | rfl | (simp only [AV.ren] at h; cases h)
theorem j6 {w : World} {im : Nat -> Prop} {μ : Mu} {hp : Hp} {σ : Sg} : ∀ {l l' : List AV} {vs : List Value}, rens σ l = some l' -> vs.length = l.length -> (∀ (i : Nat) (a : AV) (v : Value), l[i]? = some a -> vs[i]? = some v -> bo w im μ hp a v) -> RepFs w im μ hp l vs
 | [], _, vs, _, hl, _ => by
  grind [List.eq_nil_of_length_eq_zero, RepFs]
 | a :: l, l', v :: vs, h, hl, hr => by
  simp only [rens] at h
  cases h1 : a.ren σ with
  | none => rw [h1] at h; cases h
  | some a1 =>
   rw [h1] at h
   simp only at h
   cases h2 : rens σ l with
   | none => rw [h2] at h; cases h
   | some l1 =>
    obtain ⟨g1, g2⟩ := (hr 0 a v rfl rfl).toA (vo h1)
    simp only [RepFs]
    exact ⟨v, vs, rfl, g1, g2, j6 h2 (by simpa using hl) (fun i b u hb hu => hr (i + 1) b u (by simpa using hb) (by simpa using hu))⟩
 | _ :: _, _, [], _, hl, _ => by simp at hl
theorem qh {σ : Sg} : ∀ {l m r : List AV}, rens σ (l ++ m) = some r -> ∃ l' m', rens σ l = some l' /\ rens σ m = some m' /\ r = l' ++ m'
 | [], m, r, h => ⟨[], r, rfl, h, rfl⟩
 | a :: l, m, r, h => by
  simp only [List.cons_append, rens] at h ⊢
  cases h1 : a.ren σ with
  | none => rw [h1] at h; cases h
  | some a1 =>
   rw [h1] at h
   simp only at h ⊢
   cases h2 : rens σ (l ++ m) with
   | none => rw [h2] at h; cases h
   | some r1 =>
    rw [h2] at h
    cases h
    obtain ⟨l', m', g1, g2, rfl⟩ := qh h2
    grind
theorem RepFs.append {w : World} {im : Nat -> Prop} {μ : Mu} {hp : Hp} : ∀ {l m : List AV} {vs us : List Value}, RepFs w im μ hp l vs -> RepFs w im μ hp m us -> RepFs w im μ hp (l ++ m) (vs ++ us)
 | [], _, vs, us, h, h' => by
  grind [RepFs]
 | a :: l, m, vs, us, h, h' => by
  simp only [RepFs] at h
  obtain ⟨v, vs', rfl, h1, h2, h3⟩ := h
  simp only [List.cons_append, RepFs]
  exact ⟨v, vs' ++ us, rfl, h1, h2, RepFs.append h3 h'⟩
theorem cu.of_agree {σ : Sg} {hp iQ h0 : Hp} (H : cu σ hp h0) (hk : ∀ o o' φ, σ.get o = some (o', φ) -> iQ o = hp o) : cu σ iQ h0 :=
 ⟨H.good, fun o o' φ h => by rw [hk o o' φ h]; exact H.fwd o o' φ h, H.dom⟩
theorem n6.of_agree {σ cI : Sg} {hp iQ H1 : Hp} {wr : List (Nat × aj)} (B : n6 σ cI hp H1 wr) (hall : ∀ o' o φ, cI.get o' = some (o, φ) -> o ∈ wr.map (·.1)) (hk : ∀ o, o ∈ wr.map (·.1) -> iQ o = hp o) : n6 σ cI iQ H1 wr :=
 ⟨B.good, fun o' o φ h => by
  obtain ⟨ob, ct, h1, h2, h3⟩ := B.bwd o' o φ h
  exact ⟨ob, ct, h1, h2, by rw [fI (bp := hp) (hall o' o φ h)]; exact h3⟩, B.passed, fun o' o φ h => (B.fresh o' o φ h).imp id fun ⟨a, b⟩ => ⟨a, by rw [hk o (hall o' o φ h)]; exact b⟩, B.keys⟩
def Kl (C : Ctx) (s1 : ASt) (w : World) (s2 : ASt) (a' : Act) (w' : World) : Prop := ∃ im μ bI bh a, Inv C im μ s1 a w /\ Inv C bI bh s2 a' w' /\ Ev w im μ s1.hp w' bI bh s2.hp
theorem Kl.rel {s1 s2 : ASt} {w w' : World} {a' : Act} (h : Kl C s1 w s2 a' w') : Rel C s2 a' w' := by
 obtain ⟨_, _, bI, bh, _, _, h, _⟩ := h
 exact ⟨bI, bh, h⟩
theorem Kl.keep {s1 s2 : ASt} {w w' : World} {a' : Act} {hp2 : Hp} (h : Kl C s1 w s2 a' w')
  (hk : ∀ o, hp2 o = s2.hp o \/ ∃ (T : TypeId) (e : Ty) (m : Nat) (xs : List e.den) (T' : TypeId) (e' : Ty) (px : List e'.den), s1.hp o = some (.arr T e m true xs) /\ s2.hp o = some (.arr T' e' m true px) /\ hp2 o = s1.hp o) : Rel C ⟨s2.fr, hp2⟩ a' w' := by
 obtain ⟨im, μ, bI, bh, a, hi, fc, fO⟩ := h
 have old : ∀ (o : Nat) (T : TypeId) (e : Ty) (m : Nat) (xs : List e.den) (T' : TypeId) (e' : Ty) (px : List e'.den), s1.hp o = some (.arr T e m true xs) -> s2.hp o = some (.arr T' e' m true px) ->
   cA (.arr T' e' m true px) (bh o) (.arr T e m true xs) (bh o) /\ il w' bI bh hp2 (bh o) (.arr T e m true xs) := by
  intro o T e m xs T' e' px h1 h2
  obtain ⟨ct, g1, m1, z1, ys, rfl, g2⟩ := fO.fob o _ h1
  rw [h2] at g1
  cases g1
  rcases g2 with ⟨_, g3, g4⟩ | g2
  ·have hr := hi.obj o _ h1
   have hmu : bh o = μ o := by
    rcases g4 with g4 | ⟨b, cap, g4, g5⟩
    ·exact g4
    ·rcases hr with ⟨ad, hr, _⟩ | ⟨hr, _⟩ | ⟨_, b', cap', cs, hr, _⟩
     all_goals grind
   refine ⟨⟨m, true, xs, rfl, .inl ⟨rfl, g3.symm, .inl rfl⟩⟩, ?_⟩
   rw [hmu]
   rcases hr with hr | ⟨hr, _⟩ | ⟨_, b', cap', cs, q1, q2, q3, q4, q5, q6⟩
   ·exact .inl hr
   ·cases hr
   ·exact .inr (.inr ⟨rfl, b', cap', cs, q1, fO.fim _ q2, q3, q4, q5.mono (fO.fheap _ q2), aR.mono (aM.mono fO.fim fO.fheap e) _ _ q6⟩)
  ·omega
 have ev2 : Ev w' bI bh s2.hp w' bI bh hp2 := by
  refine ⟨fun _ h => h, fun _ _ => rfl, fun o ob ho => ?_⟩
  rcases hk o with h | ⟨T, e, m, xs, T', e', px, h1, h2, h3⟩
  ·exact ⟨ob, by rw [h]; exact ho, cA.refl _ _⟩
  ·rw [h2] at ho
   cases ho
   exact ⟨_, h3.trans h1, (old o T e m xs T' e' px h1 h2).1⟩
 refine ⟨bI, bh, fc.os, fc.tape, fc.output, fc.grow, fc.old, fc.imC, fc.imNew, fc.imLt, fc.sep, fc.inj, fun o ho => ?_, fun o ob ho => ?_, fun g v hg => (fc.glob g v hg).ev ev2, fun x => (fc.fr x).ev ev2, fc.size, fc.defers, fun o ob ho => ?_⟩
 ·rcases hk o with h | ⟨T, e, m, xs, T', e', px, h1, h2, h3⟩
  ·exact fc.dom o (h.symm.trans ho)
  ·have dS : hp2 o = none := ho
   rw [h3, h1] at dS; cases dS
 ·rcases hk o with h | ⟨T, e, m, xs, T', e', px, h1, h2, h3⟩
  ·exact (fc.obj o ob (h.symm.trans ho)).ev ev2 fun _ _ => rfl
  ·have dS : hp2 o = some ob := ho
   rw [h3, h1] at dS
   cases dS
   exact (old o T e m xs T' e' px h1 h2).2
 ·obtain ⟨ct, g1, g2⟩ := fc.pin o ob ho
  obtain ⟨rF, k1, k2⟩ := ev2.fob o _ g1
  exact ⟨rF, k1, g2.trans k2⟩
theorem w9 {o : Oper} {x : Operand} {xs : Array Operand} {at' : Array TypeId} {f : FuncId} {cap args : List AV} {σ cI : Sg} {h0 H1 : Hp} {wr : List (Nat × aj)} {AE : aq} (ho : o.op = .call ⟨.value x, xs, at'⟩) (hg : eE C)
  (hx : s.ev C x = .fn (.func f) [] cap) (hargs : rens σ (xs.toList.map (s.ev C) ++ cap) = some args) (H : cu σ s.hp h0) (hf : FnH P C.Γ f args h0 (fun ae h1 => ae = AE /\ h1 = H1)) (B : n6 σ cI s.hp H1 wr)
  (hall : ∀ o' o φ, cI.get o' = some (o, φ) -> o ∈ wr.map (·.1))
  {s1 : ASt} (fj : ∀ y ∈ o.op.operands.toList, s1.ev C y = s.ev C y) (fA : ∀ k, k ∈ wr.map (·.1) -> s1.hp k = s.hp k) {a : Act} {w : World} (hr : Rel C s1 a w) (hd : ∀ d, o.dst = some d -> d < C.n)
  (K : Act -> World -> Prop) (Q : Exit -> Act -> World -> Prop)
  (hret : ∀ (rs fQ : List AV) (a' : Act) (w' : World), AE = .ret rs -> rens cI rs = some fQ -> Kl C s1 w ⟨(s1.put o.dst (rZ fQ)).fr, aG s1.hp wr⟩ a' w' -> K a' w')
  (hren : ∀ rs, AE = .ret rs -> ∃ fQ, rens cI rs = some fQ)
  (hpan : ∀ (t : TypeId) (n : Int) (w' : World), AE = .panic t n -> Rel C ⟨s1.fr, aG s1.hp wr⟩ a w' -> Q (.panic [{ v := .iface t (.int .i64 n), recovered := false }]) a w') : o.wpIn (fen C.rd) 0 P a w K Q := by
 obtain ⟨im, μ, hi⟩ := hr
 have hpas : ∀ o o' φ, σ.get o = some (o', φ) -> s1.hp o = s.hp o := fun o o' φ h => by
  obtain ⟨wP, e, _⟩ := B.passed o o' φ h
  grind
 have H1' := H.of_agree hpas
 have B1 := B.of_agree hall fA
 have rG : s1.ev C x = .fn (.func f) [] cap := (fj x (by rw [ho]; simp [Op.operands, Call.operands])).trans hx
 obtain ⟨hr, cy⟩ := rG ▸ hi.ev x
 simp only [RepA, RepFs] at hr
 obtain ⟨vs, us, hcell, Hn, hus⟩ := hr
 subst Hn
 have hv : a.eval x = .func (.func f) #[] us.toArray := by
  generalize a.eval x = v at hcell cy
  cases v <;> simp_all [Value.cells, aY, AV.isAgg]
 obtain ⟨la, lc, ra, rc, hargs'⟩ := qh hargs
 have hA : RepFs w im μ s1.hp (xs.toList.map (s.ev C)) (xs.toList.map a.eval) := by
  refine j6 ra (by simp) ?_
  intro i b u hb hu
  rw [List.getElem?_map, Option.map_eq_some_iff] at hb hu
  obtain ⟨y, hy, rfl⟩ := hb
  obtain ⟨y', hy', rfl⟩ := hu
  obtain rfl : y = y' := Option.some.inj (hy.symm.trans hy')
  have hm : y ∈ o.op.operands.toList := by
   rw [ho]
   simp only [Op.operands, Call.operands, Array.toList_append]
   exact List.mem_append.2 (.inr (List.mem_of_getElem? hy))
  rw [← fj y hm]; exact hi.ev y
 have hAll := RepFs.append hA hus
 obtain ⟨hI, hS⟩ := H1'.inv (fun o b h => ⟨(hi.sep o b h).1, (hi.sep o b h).2.1⟩) hi.inj hi.obj
 have hAll' := RepFs.ren hS _ _ _ hargs hAll
 have hcalls := hf.2 w im (ff σ μ) _ hi.imLt (fun g v h => by
  obtain ⟨h1, h2⟩ := (hi.glob g v h).toA (fB (hg g v h))
  exact bo.ofA (RepA.free _ _ (hg g v h) h1) h2) hI hAll'
 have hrun : (execOp a.eval o).run P w = .ok (.enter f (xs.toList.map a.eval ++ us).toArray) w := by
  have := hf.1 (xs.map a.eval ++ us.toArray) w
  have e : (xs.toList.map a.eval ++ us).toArray = xs.map a.eval ++ us.toArray := by apply Array.ext'; simp
  rw [e]
  simp only [execOp, ho, resolve, hv, Deferred.ofValue, Sem.run_bind, Sem.run_pure, Result.andThen_ok, invoke, Array.empty_append, this]
 refine ⟨fun f _ => nA _ f, ?_⟩
 rw [Oper.semAt_eq _ _ _ (by intro c hc; rw [ho] at hc; cases hc), hrun, Oper.uponIn_enter]
 refine ⟨(fun h => nomatch h), ?_⟩
 have hci : CallsIn (fen C.rd) (0 - 1) P f (xs.toList.map a.eval ++ us).toArray w _ := (callsIn_wide (n := 0 - 1)).2 hcalls
 refine hci.mono ?_
 rintro e w' ⟨ae, h1, bI, bh, ⟨rfl, rfl⟩, kf, he⟩
 have hback := fun (dst : Option Nat) (hd : ∀ d, dst = some d -> d < C.n) (av : AV) (v : Value) hv => hi.backE (dst := dst) H1' B1 kf hd (av := av) (v := v) hv
 cases ae with
 | ret rs =>
  obtain ⟨v, rfl, vs, Hn, hveq⟩ := r5 he
  obtain ⟨fQ, u7⟩ := hren rs rfl
  have hsg' : n5 cI bh (gw cI bh μ) h1 (aG s1.hp wr) := ⟨fun o' o φ h => ⟨by simp only [gw, Sg.inv_of_get B1.good h], fun ob dK => by
   obtain ⟨na, ct, g1, g2, g3⟩ := B1.bwd o' o φ h
   rw [dK] at g1; cases g1
   exact ⟨ct, g3, aj.ren_obR g2⟩⟩⟩
  have P1 := HF (RepFs.ren hsg' _ _ _ u7 Hn)
  rw [← hveq] at P1
  exact hret rs fQ _ _ rfl u7 ⟨im, μ, bI, _, a, hi, (hback o.dst hd _ v P1).1, (hback o.dst hd _ v P1).2⟩
 | panic t n =>
  have J5 : e = .panicked [{ v := .iface t (.int .i64 n), recovered := false }] := he
  subst J5
  exact hpan t n w' rfl ⟨bI, _, (hback none (fun d h => by cases h) .undef Go.undef trivial).1⟩
theorem Km {o : Oper} {x : Operand} {xs : Array Operand} {at' : Array TypeId} {f : FuncId} {cap args rs fQ : List AV} {σ cI : Sg} {h0 H1 : Hp} {wr : List (Nat × aj)} (ho : o.op = .call ⟨.value x, xs, at'⟩) (hg : eE C)
  (hx : s.ev C x = .fn (.func f) [] cap) (hargs : rens σ (xs.toList.map (s.ev C) ++ cap) = some args) (H : cu σ s.hp h0) (hf : FnH P C.Γ f args h0 (fun ae h1 => ae = .ret rs /\ h1 = H1)) (B : n6 σ cI s.hp H1 wr)
  (hall : ∀ o' o φ, cI.get o' = some (o, φ) -> o ∈ wr.map (·.1)) (u7 : rens cI rs = some fQ) : OpW P C o ⟨o.dst, rZ fQ, [], wr⟩ s := by
 intro s1 fj fA a w hr hd K Q hK
 refine w9 ho hg hx hargs H hf B hall fj (fun k hk => fA k (.inr hk)) hr hd K Q ?_ ?_ ?_
 ·intro r1 r2 a' w' e1 e2 lj
  cases e1
  rw [u7] at e2; cases e2
  exact hK a' w' lj.rel
 all_goals grind
theorem HG {o : Oper} {x : Operand} {xs : Array Operand} {at' : Array TypeId} {f : FuncId} {cap args rs fQ : List AV} {σ cI : Sg} {h0 H1 : Hp} {wr wr2 : List (Nat × aj)} {rd2 : List Nat} (ho : o.op = .call ⟨.value x, xs, at'⟩) (hg : eE C)
  (hx : s.ev C x = .fn (.func f) [] cap) (hargs : rens σ (xs.toList.map (s.ev C) ++ cap) = some args) (H : cu σ s.hp h0) (hf : FnH P C.Γ f args h0 (fun ae h1 => ae = .ret rs /\ h1 = H1)) (B : n6 σ cI s.hp H1 wr)
  (hall : ∀ o' o φ, cI.get o' = some (o, φ) -> o ∈ wr.map (·.1)) (u7 : rens cI rs = some fQ)
  (CP : ∀ k ∈ wr.map (·.1), k ∈ rd2 \/ k ∈ wr2.map (·.1))
  (hk : ∀ (h1 : Hp), (∀ k ∈ wr.map (·.1), h1 k = s.hp k) -> ∀ o, aG h1 wr2 o = aG h1 wr o \/ ∃ (T : TypeId) (e : Ty) (m : Nat) (xs : List e.den) (T' : TypeId) (e' : Ty) (px : List e'.den), h1 o = some (.arr T e m true xs) /\ aG h1 wr o = some (.arr T' e' m true px) /\ aG h1 wr2 o = h1 o) :
  OpW P C o ⟨o.dst, rZ fQ, rd2, wr2⟩ s := by
 intro s1 fj fA a w hr hd K Q hK
 have cy : ∀ k ∈ wr.map (·.1), s1.hp k = s.hp k := fun k hk => fA k (CP k hk)
 refine w9 ho hg hx hargs H hf B hall fj cy hr hd K Q ?_ ?_ ?_
 ·intro r1 r2 a' w' e1 e2 lj
  cases e1
  rw [u7] at e2; cases e2
  exact hK a' w' (lj.keep (hk s1.hp cy))
 all_goals grind
theorem lL {o : Oper} {x : Operand} {xs : Array Operand} {at' : Array TypeId} {f : FuncId} {cap args : List AV} {t : TypeId} {n : Int} {σ cI : Sg} {h0 H1 : Hp} {wr : List (Nat × aj)} (ho : o.op = .call ⟨.value x, xs, at'⟩) (hg : eE C)
  (hx : s.ev C x = .fn (.func f) [] cap) (hargs : rens σ (xs.toList.map (s.ev C) ++ cap) = some args) (H : cu σ s.hp h0) (hf : FnH P C.Γ f args h0 (fun ae h1 => ae = .panic t n /\ h1 = H1)) (B : n6 σ cI s.hp H1 wr)
  (hall : ∀ o' o φ, cI.get o' = some (o, φ) -> o ∈ wr.map (·.1)) {s1 : ASt} (fj : ∀ y ∈ o.op.operands.toList, s1.ev C y = s.ev C y) (fA : ∀ k, k ∈ wr.map (·.1) -> s1.hp k = s.hp k)
  {a : Act} {w : World} (hr : Rel C s1 a w) (hd : ∀ d, o.dst = some d -> d < C.n) (K : Act -> World -> Prop) {Q : Exit -> Act -> World -> Prop} (hQ : ∀ a' w', Rel C ⟨s1.fr, aG s1.hp wr⟩ a' w' -> Q (.panic [{ v := .iface t (.int .i64 n), recovered := false }]) a' w') :
  o.wpIn (fen C.rd) 0 P a w K Q := by
 refine w9 ho hg hx hargs H hf B hall fj fA hr hd K _ ?_ ?_ ?_
 all_goals grind
inductive j7 (P : Program) (s : ASt) : List ResultVar -> List AV -> Prop
 | nil : j7 P s [] []
 | tmp {t : Nat} {a : AV} {l : List ResultVar} {l' : List AV} : s.fr t = a -> a.plain = true -> j7 P s l l' -> j7 P s (.tmp t :: l) (a :: l')
 | cell {t o : Nat} {T : TypeId} {a : AV} {l : List ResultVar} {l' : List AV} : s.fr t = .op o [] 0 -> s.hp o = some (.box a) -> TyS P T a.asize a.isAgg -> j7 P s l l' -> j7 P s (.cell t T :: l) (a :: l')
def nD (tmps : Array Value) : ResultVar -> Sem Value
 | .tmp t => pure (tmps.getD t Go.undef)
 | .cell x t => do loadVar t (← asAddr (tmps.getD x Go.undef))
theorem jS {im : Nat -> Prop} {μ : Mu} {a : Act} {w : World} (hi : Inv C im μ s a w) : ∀ {l : List ResultVar} {l' : List AV}, j7 P s l l' ->
  ∃ vs : List Value, (l.mapM (nD a.tmps)).run P w = .ok vs w /\ RepFs w im μ s.hp l' vs
 | _, _, .nil => ⟨[], rfl, by simp [RepFs]⟩
 | _, _, .tmp (t := t) hz eg h => by
  obtain ⟨vs, h1, h2⟩ := jS hi h
  obtain ⟨g1, g2⟩ := (hz ▸ hi.fr t).toA eg
  refine ⟨a.tmps.getD t Go.undef :: vs, ?_, ?_⟩
  ·simp_all [List.mapM_cons, nD]
  grind [RepFs]
 | _, _, .cell (t := t) (o := o) (T := T) (a := v) q7 ho ht h => by
  obtain ⟨vs, h1, h2⟩ := jS hi h
  obtain ⟨b, u, h3, h4, h5⟩ := pC (q7 ▸ hi.fr t)
  obtain ⟨b', cells, T', he, hc, hr⟩ := hi.obj o _ ho
  obtain rfl : b' = b := by rw [h3] at he; cases he; rfl
  have hl := iT ht w (cp hc) (RepA.length _ _ hr) (fun cy => gG cy)
  obtain ⟨g1, g2⟩ := (hr.toV).toA (AV.plain_of_RepA hr)
  refine ⟨iq v.isAgg cells.toList :: vs, ?_, ?_⟩
  ·simp only [List.mapM_cons, nD, Sem.run_bind, h5, asAddr, Sem.run_pure, Result.andThen_ok, hl, h1]
  grind [RepFs]
def jo : List AV -> Nat -> AV
 | [], _ => .undef
 | a :: _, 0 => a
 | _ :: l, x + 1 => jo l x
theorem jq : ∀ (l : List AV) (x : Nat), jo l x = (l[x]?).getD .undef
 | [], x => by simp [jo]
 | a :: l, 0 => rfl
 | a :: l, x + 1 => by simp only [jo, List.getElem?_cons_succ]; exact jq l x
def zQ (W : World) (im : Nat -> Prop) (μ : Mu) (h0 : Hp) (n : Nat) (Γ : Nat -> Option AV) (nm : Bool := false) : Ctx := ⟨W, im, fun b => ∃ o, (μ o).blk = some b, n, [], Γ, h0, μ, none, nm⟩
theorem iV {W : World} {im : Nat -> Prop} {μ : Mu} {hp : Hp} : ∀ {l : List AV} {vs : List Value}, RepFs W im μ hp l vs -> vs.length = l.length
 | [], vs, h => by simp only [RepFs] at h; subst h; rfl
 | a :: l, vs, h => by simp only [RepFs] at h; obtain ⟨v, us, rfl, _, _, h3⟩ := h; simp [iV h3]
theorem r6 {Γ : Nat -> Option AV} {W : World} {im : Nat -> Prop} {μ : Mu} {h0 : Hp} {vals : List Value} {args : List AV} {n : Nat} (iC : ∀ b, im b -> b < W.heap.size) (hgf : ∀ g v, Γ g = some v -> v.free = true) (hglob : kT Γ W im) (hI : jR W im μ h0)
  (hargs : RepFs W im μ h0 args vals) (hn : args.length <= n) (nm : Bool := false) : Inv (zQ W im μ h0 n Γ nm) im μ ⟨jo args, h0⟩ { tmps := vals.toArray ++ Array.replicate (n - vals.toArray.size) Go.undef, defers := [] } W := by
 have hlen := iV hargs
 refine ⟨rfl, rfl, rfl, Nat.le_refl _, fun _ _ _ => rfl, fun _ h => h, fun _ h => .inl h, iC, (fun o b h => ⟨(hI.sep o b h).1, (hI.sep o b h).2, .inl ⟨o, h⟩⟩), hI.inj, hI.dom, hI.obj, fun g v h => ?_, ?_, ?_, ⟨[], rfl, List.nodup_nil, fun _ => rfl, fun r hr => by cases hr⟩, fun o ob h => ⟨ob, h, cA.refl _ _⟩⟩
 ·obtain ⟨h1, h2⟩ := (hglob g v h).toA (fB (hgf g v h))
  exact bo.ofA (RepA.free _ _ (hgf g v h) h1) h2
 ·intro x
  simp only
  rw [jq]
  cases hx : args[x]? with
  | none => trivial
  | some av =>
   obtain ⟨v, h1, h2, h3⟩ := RepFs.get hargs hx
   have bJ : x < vals.length := (List.getElem?_eq_some_iff.1 h1).1
   have : (vals.toArray ++ Array.replicate (n - vals.toArray.size) Go.undef).getD x Go.undef = v := by
    rw [Array.getD_eq_getD_getElem?, Array.getElem?_append_left (by simpa using bJ)]
    simp [h1]
   grind [bo.ofA]
 ·simp [zQ]; omega
theorem qi {fn : Func} {tmps : Array Value} {w : World} {im : Nat -> Prop} {μ : Mu} {hp : Hp} {rs : List AV} {vs : List Value} (h1 : (fn.results.toList.mapM (nD tmps)).run P w = .ok vs w) (h2 : RepFs w im μ hp rs vs) :
  ∃ v, (results fn tmps).run P w = .ok v w /\ j5 w im μ hp (.ret rs) (.returned v) := by
 have hmapM : (fn.results.mapM (nD tmps)).run P w = .ok vs.toArray w := by
  simp_all [Array.mapM_eq_mapM_toList]
 have key : ∀ g : ResultVar -> Sem Value, (∀ r, g r = nD tmps r) -> ((do let us ← fn.results.mapM g; pure (if h : us.size = 1 then us[0] else .tuple us)) : Sem Value).run P w = .ok (if h : vs.toArray.size = 1 then vs.toArray[0] else .tuple vs.toArray) w := by
  intro g hg
  obtain rfl : g = nD tmps := funext hg
  simp_all
 refine ⟨if h : vs.toArray.size = 1 then vs.toArray[0] else .tuple vs.toArray, ?_, ?_⟩
 ·unfold results
  exact key _ (fun r => by cases r <;> rfl)
 ·match rs, vs, h2 with
  | [], vs, zo => 
   simp only [RepFs] at zo
   subst zo
   exact ⟨[], rfl, by simp [RepFs]⟩
  | [r], vs, zo =>
   simp only [RepFs] at zo
   obtain ⟨v, us, rfl, g1, g2, rfl⟩ := zo
   exact ⟨v, rfl, g1, g2⟩
  | r :: r' :: rs, vs, zo =>
   have h3 := zo
   simp only [RepFs] at h3
   obtain ⟨v, us, rfl, g1, g2, v', us', rfl, _⟩ := h3
   exact ⟨v :: v' :: us', by simp, zo⟩
structure Xx (rs : List Nat) (w w' : World) : Prop where
 os : w'.os = w.os
 tape : w'.tape = w.tape
 output : w'.output = w.output
 size : w'.heap.size = w.heap.size
 heap : ∀ b, b ∉ rs -> w'.heap[b]? = w.heap[b]?
theorem n7 {F : Fence} {n : Nat} {fn : Func} {tmps : Array Value} {R : Ending -> World -> Prop} {ds : List Deferred} {u : FrameMode} (hu : u ≠ .run) : ∀ (rs : List Nat) (w : World), rs.Nodup -> (∀ r ∈ rs, w.heap[r]? = some (.deferred (some []))) ->
  (∀ w', Xx rs w w' -> LeavesInM F n P fn tmps R ds u w') -> LeavesInM F n P fn tmps R (rs.map J9 ++ ds) u w
 | [], w, _, _, h => h w ⟨rfl, rfl, rfl, rfl, fun _ _ => rfl⟩
 | r :: rs, w, hn, hr, h => by
  obtain ⟨hn1, hn2⟩ := List.nodup_cons.1 hn
  have h0 := hr r (by simp)
  refine ⟨hu, .inl ⟨r, _, rfl, run_takeDeferred h0, n7 hu rs _ hn2 (fun r' lj => ?_) (fun w' hs => h w' ?_)⟩⟩
  ·grind [World.putObj_heap_other]
  ·refine ⟨hs.os, hs.tape, hs.output, by rw [hs.size]; simp, fun b hb => ?_⟩
   rw [hs.heap b (fun hm => hb (by simp [hm])), World.putObj_heap_other (by rintro rfl; exact hb (by simp))]
theorem Inv.unmark {C : Ctx} {im : Nat -> Prop} {μ : Mu} {s : ASt} {a : Act} {w w' : World} {rs : List Nat} (hi : Inv C im μ s a w) (hm : zq C im μ w rs) (hs : Xx rs w w') : Inv C im μ s { a with defers := C.defers } w' := by
 have hb : ∀ b, (∀ o, (μ o).blk ≠ some b) \/ True -> b ∉ rs -> w'.heap[b]? = w.heap[b]? := fun b _ h => hs.heap b h
 have iC : ∀ b, im b -> b ∉ rs := fun b h hr => (hm.all b hr).2.2.1 h
 have hbl : ∀ o b, (μ o).blk = some b -> b ∉ rs := fun o b h hr => (hm.all b hr).2.2.2.1 o h
 have ev : Ev w im μ s.hp w' im μ s.hp := ⟨fun _ h => h, fun b h => hs.heap b (iC b h), fun o ob ho => ⟨ob, ho, cA.refl _ _⟩⟩
 exact ⟨hs.os.trans hi.os, hs.tape.trans hi.tape, hs.output.trans hi.output, by rw [hs.size]; exact hi.grow, fun b h1 h2 => (hs.heap b (fun hr => by have := (hm.all b hr).1; omega)).trans (hi.old b h1 h2), hi.imC, hi.imNew, fun b h => by rw [hs.size]; exact hi.imLt b h,
  fun o b h => by rw [hs.size]; exact hi.sep o b h, hi.inj, hi.dom, fun o ob ho => (hi.obj o ob ho).ev ev (fun b h => hs.heap b (hbl o b h)), fun g v hg => (hi.glob g v hg).ev ev, fun x => (hi.fr x).ev ev, hi.size, ⟨[], by simp, List.nodup_nil, fun _ => rfl, fun r hr => by cases hr⟩, hi.pin⟩
def Kn (σ : Sg) (a a' : AV) : Prop := a' = .undef \/ a.ren σ = some a' \/ ∃ l l', a = .tup l /\ a' = .tup l' /\ rens σ l = some l'
theorem Kn.sound {w : World} {im : Nat -> Prop} {μ bh : Mu} {hp bp : Hp} {σ : Sg} {a a' : AV} (h : n5 σ μ bh hp bp) (hr : Kn σ a a') {v : Value} (hv : bo w im μ hp a v) : bo w im bh bp a' v := by
 rcases hr with rfl | hr | ⟨l, l', rfl, rfl, hr⟩
 ·trivial
 ·obtain ⟨h1, h2⟩ := hv.toA (vo hr)
  grind [bo.ofA, RepA.ren, AV.ren_agg]
 ·obtain ⟨vs, e, h1⟩ := hv
  exact ⟨vs, e, RepFs.ren h _ _ _ hr h1⟩
theorem cA.obR {ob na rF : aj} {p q : Pl} (h2 : cA ob p na q) (h4 : ObR .keep na rF) : cA ob p rF q := by
 cases na with
 | box v =>
  cases rF with
  | arr _ _ _ _ _ => exact h4.elim
  | rc _ => exact h4.elim
  | box v2 =>
   cases ob with
   | box v0 => exact h2
   | rc _ => exact h2.elim
   | arr T e m z xs => obtain ⟨_, _, _, h5, _⟩ := h2; cases h5
 | rc v =>
  cases rF with
  | arr _ _ _ _ _ => exact h4.elim
  | box _ => exact h4.elim
  | rc v2 =>
   cases ob with
   | box v0 => exact h2.elim
   | rc _ => exact ⟨h2.1, (show v2.isMap = v.isMap from h4).trans h2.2⟩
   | arr T e m z xs => obtain ⟨_, _, _, h5, _⟩ := h2; cases h5
 | arr T e m z xs =>
  obtain ⟨m', h5, rfl⟩ := h4
  cases h5
  exact h2
theorem E7 {s s' : ASt} {σ : Sg} (hg : eE C) (H : cu σ s.hp s'.hp) (q7 : ∀ x, Kn σ (s.fr x) (s'.fr x)) (hpin : ∀ o ob, C.h0 o = some ob -> σ.get o = some (o, .keep)) : Le C s s' := by
 rintro a w ⟨im, μ, hi⟩
 obtain ⟨hI, hS⟩ := H.inv (fun o b h => ⟨(hi.sep o b h).1, (hi.sep o b h).2.1⟩) hi.inj hi.obj
 have hinb : ∀ o' b, (ff σ μ o').blk = some b -> ∃ o, (μ o).blk = some b := fun o' b h => by
  unfold ff at h
  cases hq : σ.inv o' with
  | none => rw [hq] at h; cases h
  | some o => rw [hq] at h; exact ⟨o, h⟩
 refine ⟨im, ff σ μ, hi.os, hi.tape, hi.output, hi.grow, hi.old, hi.imC, hi.imNew, hi.imLt, ?_, hI.inj, hI.dom, hI.obj, ?_, fun x => (q7 x).sound hS (hi.fr x), hi.size, ?_, ?_⟩
 ·intro o' b h
  obtain ⟨o, h1⟩ := hinb o' b h
  exact hi.sep o b h1
 ·intro g v h
  obtain ⟨h1, h2⟩ := (hi.glob g v h).toA (fB (hg g v h))
  exact bo.ofA (RepA.free _ _ (hg g v h) h1) h2
 ·obtain ⟨rs, h1, h2⟩ := hi.defers
  refine ⟨rs, h1, h2.nodup, h2.none, fun r hr => ?_⟩
  obtain ⟨g1, g2, g3, g4, g5⟩ := h2.all r hr
  grind
 ·intro o ob h
  have hσ := hpin o ob h
  obtain ⟨na, h1, h2⟩ := hi.pin o ob h
  obtain ⟨g1, g2⟩ := hS.ob o o .keep hσ
  obtain ⟨rF, h3, h4⟩ := g2 na h1
  refine ⟨rF, h3, ?_⟩
  rw [g1]
  cases na with
  | box v =>
   cases rF with
   | arr _ _ _ _ _ => exact h4.elim
   | rc _ => exact h4.elim
   | box v2 =>
    cases ob with
    | box v0 => exact h2
    | rc _ => exact h2.elim
    | arr T e m z xs => obtain ⟨_, _, _, h5, _⟩ := h2; cases h5
  | rc v =>
   cases rF with
   | arr _ _ _ _ _ => exact h4.elim
   | box _ => exact h4.elim
   | rc v2 =>
    cases ob with
    | box v0 => exact h2.elim
    | rc _ => exact ⟨h2.1, (show v2.isMap = v.isMap from h4).trans h2.2⟩
    | arr T e m z xs => obtain ⟨_, _, _, h5, _⟩ := h2; cases h5
  | arr T e m z xs =>
   obtain ⟨m', h5, rfl⟩ := h4
   cases h5
   exact h2
theorem vp {o : Nat} {T : TypeId} {e : Ty} {m : Nat} {xs : List e.den} (h : s.hp o = some (.arr T e m false xs)) : Le C s ⟨s.fr, aG s.hp [(o, .arr T e m true xs)]⟩ := by
 rintro a w ⟨im, μ, hi⟩
 have hone := dz s.hp o (.arr T e m true xs)
 have j2 : ∀ x, x ≠ o -> aG s.hp [(o, .arr T e m true xs)] x = s.hp x := fun x hx => iU s.hp _ hx
 rcases hi.obj o _ h with ⟨ad, bp, rfl⟩ | ⟨_, b, cap, cells, bp, hb, h1, h2, h3, h4⟩ | ⟨hz, _⟩
 ·-- nothing in memory
  have fO : ∀ ob, s.hp o = some ob -> cA ob (μ o) (.arr T e m true []) (μ o) := fun ob dK => by
   rw [h] at dK; cases dK; exact ⟨m, true, [], rfl, .inl ⟨rfl, rfl, .inl rfl⟩⟩
  have hw : jk w w (μ o).blk := ⟨rfl, rfl, rfl, Nat.le_refl _, fun _ _ _ => rfl⟩
  have := hi.obj1 (dst := none) (av := .undef) (v := Go.undef) (pz := μ o) fO hw (fun b hb => by rw [bp] at hb; cases hb) (.inl ⟨ad, bp, rfl⟩) (fun d h => by cases h) trivial
  exact ⟨im, _, this⟩
 ·have hblk : (μ o).blk = some b := by rw [bp]; rfl
  obtain ⟨s1, s2, s3⟩ := hi.sep o b hblk
  have ev : Ev w im μ s.hp w (fun k => im k \/ k = b) (jj μ o (.fz b cap)) (aG s.hp [(o, .arr T e m true xs)]) := by
   refine ⟨fun _ h => .inl h, fun _ _ => rfl, fun x ob hx => ?_⟩
   by_cases EZ : x = o
   ·subst EZ
    rw [h] at hx; cases hx
    exact ⟨_, hone, m, true, xs, rfl, .inl ⟨rfl, rfl, .inr ⟨b, cap, bp, bE _ _ _⟩⟩⟩
   grind [cE, cA.refl]
  refine ⟨_, _, hi.step (dst := none) (av := .undef) (v := Go.undef) (a := a) ev rfl rfl rfl (Nat.le_refl _) (fun _ _ _ => rfl) ?_ ?_ ?_ ?_ ?_ ?_ (fun d h => by cases h) trivial⟩
  ·grind
  ·rintro k (hk | rfl)
   ·exact hi.imLt k hk
   ·exact s2
  ·intro x k hx
   by_cases EZ : x = o
   ·subst EZ; rw [bE] at hx; cases hx
   ·rw [cE _ _ EZ] at hx
    obtain ⟨g1, g2, _⟩ := hi.sep x k hx
    refine ⟨?_, g2, .inl ⟨x, hx⟩⟩
    rintro (hk | rfl)
    ·exact g1 hk
    ·exact EZ (hi.inj _ _ _ hx hblk)
  ·intro x y k hx hy
   by_cases EZ : x = o
   ·subst EZ; rw [bE] at hx; cases hx
   ·by_cases hyo : y = o
    ·subst hyo; rw [bE] at hy; cases hy
    ·rw [cE _ _ EZ] at hx; rw [cE _ _ hyo] at hy
     exact hi.inj _ _ k hx hy
  ·intro x hx
   by_cases EZ : x = o
   ·grind
   ·rw [j2 x EZ] at hx; rw [cE _ _ EZ]; exact hi.dom x hx
  ·intro x ob hx
   by_cases EZ : x = o
   ·subst EZ
    rw [hone] at hx; cases hx
    rw [bE]
    refine .inr (.inr ⟨rfl, b, cap, _, rfl, .inr rfl, h1, h2, ?_, aR.mono (aM.mono ev.fim ev.fheap e) _ _ h4⟩)
    have := (cp hb).sub 0 (xs.length * e.size)
    simpa using this
   ·rw [j2 x EZ] at hx
    rw [cE _ _ EZ]
    exact (hi.obj x ob hx).ev ev (fun _ _ => rfl)
 ·cases hz
end
end Go.Vm
