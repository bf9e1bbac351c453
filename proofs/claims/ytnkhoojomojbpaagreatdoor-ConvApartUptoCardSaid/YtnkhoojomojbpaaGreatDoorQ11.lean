/- Part K of the abstract machine: the call of a function; a function's body; a state under other names; an array that turns no more. -/
import Derived.Test.YtnkhoojomojbpaaGreatDoorQ10
import Derived.RangeFuncRecord
namespace Go.Vm
section
variable {P : Program} {C : Ctx} {s : ASt}
theorem wg {σ : Sg} {a a' : AV} (h : a.ren σ = some a') : a.plain = true := by cases a <;> first | rfl | (simp only [AV.ren] at h; cases h)
theorem kD {w : World} {im : Nat -> Prop} {μ : Mu} {hp : Hp} {σ : Sg} : ∀ {l l' : List AV} {vs : List Value}, rens σ l = some l' -> vs.length = l.length -> (∀ (i : Nat) (a : AV) (v : Value), l[i]? = some a -> vs[i]? = some v -> bC w im μ hp a v) -> RepFs w im μ hp l vs
 | [], _, vs, _, hl, _ => by
  have : vs = [] := List.eq_nil_of_length_eq_zero (by simpa using hl)
  subst this; simp [RepFs]
 | a :: l, l', v :: vs, h, hl, hr => by
  simp only [rens] at h
  cases h1 : a.ren σ with
  | none => rw [h1] at h; cases h
  | some a1 =>
   rw [h1] at h
   simp only at h
   cases h2 : rens σ l with
   | none => rw [h2] at h; cases h
   | some l1 =>
    obtain ⟨g1, g2⟩ := (hr 0 a v rfl rfl).toA (wg h1)
    simp only [RepFs]
    exact ⟨v, vs, rfl, g1, g2, kD h2 (by simpa using hl) (fun i b u hb hu => hr (i + 1) b u (by simpa using hb) (by simpa using hu))⟩
 | _ :: _, _, [], _, hl, _ => by simp at hl
theorem qQ {σ : Sg} : ∀ {l m r : List AV}, rens σ (l ++ m) = some r -> ∃ l' m', rens σ l = some l' /\ rens σ m = some m' /\ r = l' ++ m'
 | [], m, r, h => ⟨[], r, rfl, h, rfl⟩
 | a :: l, m, r, h => by
  simp only [List.cons_append, rens] at h ⊢
  cases h1 : a.ren σ with
  | none => rw [h1] at h; cases h
  | some a1 =>
   rw [h1] at h
   simp only at h ⊢
   cases h2 : rens σ (l ++ m) with
   | none => rw [h2] at h; cases h
   | some r1 =>
    rw [h2] at h
    cases h
    obtain ⟨l', m', g1, g2, rfl⟩ := qQ h2
    exact ⟨a1 :: l', m', by rw [g1], g2, rfl⟩
theorem RepFs.append {w : World} {im : Nat -> Prop} {μ : Mu} {hp : Hp} : ∀ {l m : List AV} {vs us : List Value}, RepFs w im μ hp l vs -> RepFs w im μ hp m us -> RepFs w im μ hp (l ++ m) (vs ++ us)
 | [], _, vs, us, h, h' => by
  simp only [RepFs] at h; subst h; exact h'
 | a :: l, m, vs, us, h, h' => by
  simp only [RepFs] at h
  obtain ⟨v, vs', rfl, h1, h2, h3⟩ := h
  simp only [List.cons_append, RepFs]
  exact ⟨v, vs' ++ us, rfl, h1, h2, RepFs.append h3 h'⟩
theorem cN.of_agree {σ : Sg} {hp iS h0 : Hp} (H : cN σ hp h0) (hk : ∀ o o' φ, σ.get o = some (o', φ) -> iS o = hp o) : cN σ iS h0 :=
 ⟨H.good, fun o o' φ h => by rw [hk o o' φ h]; exact H.fwd o o' φ h, H.dom⟩
theorem oW.of_agree {σ dc : Sg} {hp iS H1 : Hp} {wr : List (Nat × al)} (B : oW σ dc hp H1 wr) (hall : ∀ o' o φ, dc.get o' = some (o, φ) -> o ∈ wr.map (·.1)) (hk : ∀ o, o ∈ wr.map (·.1) -> iS o = hp o) : oW σ dc iS H1 wr :=
 ⟨B.good, fun o' o φ h => by
  obtain ⟨ob, cx, h1, h2, h3⟩ := B.bwd o' o φ h
  exact ⟨ob, cx, h1, h2, by rw [fY (bq := hp) (hall o' o φ h)]; exact h3⟩, B.passed, fun o' o φ h => (B.fresh o' o φ h).imp id fun ⟨a, b⟩ => ⟨a, by rw [hk o (hall o' o φ h)]; exact b⟩, B.keys⟩
def Kr (C : Ctx) (s1 : ASt) (w : World) (s2 : ASt) (a' : Act) (w' : World) : Prop := ∃ im μ bT bm a, Inv C im μ s1 a w /\ Inv C bT bm s2 a' w' /\ Ev w im μ s1.hp w' bT bm s2.hp
theorem Kr.rel {s1 s2 : ASt} {w w' : World} {a' : Act} (h : Kr C s1 w s2 a' w') : Rel C s2 a' w' := by
 obtain ⟨_, _, bT, bm, _, _, h, _⟩ := h
 exact ⟨bT, bm, h⟩
theorem Kr.keep {s1 s2 : ASt} {w w' : World} {a' : Act} {hp2 : Hp} (h : Kr C s1 w s2 a' w')
  (hk : ∀ o, hp2 o = s2.hp o \/ ∃ (T : TypeId) (e : Ty) (m : Nat) (xs : List e.den) (T' : TypeId) (e' : Ty) (oP : List e'.den), s1.hp o = some (.arr T e m true xs) /\ s2.hp o = some (.arr T' e' m true oP) /\ hp2 o = s1.hp o) : Rel C ⟨s2.fr, hp2⟩ a' w' := by
 obtain ⟨im, μ, bT, bm, a, hi, fq, gU⟩ := h
 have old : ∀ (o : Nat) (T : TypeId) (e : Ty) (m : Nat) (xs : List e.den) (T' : TypeId) (e' : Ty) (oP : List e'.den), s1.hp o = some (.arr T e m true xs) -> s2.hp o = some (.arr T' e' m true oP) ->
   cZ (.arr T' e' m true oP) (bm o) (.arr T e m true xs) (bm o) /\ iH w' bT bm hp2 (bm o) (.arr T e m true xs) := by
  intro o T e m xs T' e' oP h1 h2
  obtain ⟨cx, g1, m1, z1, ys, rfl, g2⟩ := gU.fob o _ h1
  rw [h2] at g1
  cases g1
  rcases g2 with ⟨_, g3, g4⟩ | g2
  ·have hr := hi.obj o _ h1
   have hmu : bm o = μ o := by
    rcases g4 with g4 | ⟨b, cap, g4, g5⟩
    ·exact g4
    ·rcases hr with ⟨ad, hr, _⟩ | ⟨hr, _⟩ | ⟨_, b', cap', cs, hr, _⟩
     ·rw [g4] at hr; cases hr
     ·cases hr
     ·rw [g4] at hr; cases hr
   refine ⟨⟨m, true, xs, rfl, .inl ⟨rfl, g3.symm, .inl rfl⟩⟩, ?_⟩
   rw [hmu]
   rcases hr with hr | ⟨hr, _⟩ | ⟨_, b', cap', cs, q1, q2, q3, q4, q5, q6⟩
   ·exact .inl hr
   ·cases hr
   ·exact .inr (.inr ⟨rfl, b', cap', cs, q1, gU.fim _ q2, q3, q4, q5.mono (gU.fheap _ q2), aU.mono (aM.mono gU.fim gU.fheap e) _ _ q6⟩)
  ·omega
 have ev2 : Ev w' bT bm s2.hp w' bT bm hp2 := by
  refine ⟨fun _ h => h, fun _ _ => rfl, fun o ob ho => ?_⟩
  rcases hk o with h | ⟨T, e, m, xs, T', e', oP, h1, h2, h3⟩
  ·exact ⟨ob, by rw [h]; exact ho, cZ.refl _ _⟩
  ·rw [h2] at ho
   cases ho
   exact ⟨_, h3.trans h1, (old o T e m xs T' e' oP h1 h2).1⟩
 refine ⟨bT, bm, fq.os, fq.tape, fq.output, fq.grow, fq.old, fq.imC, fq.imNew, fq.imLt, fq.sep, fq.inj, fun o ho => ?_, fun o ob ho => ?_, fun g v hg => (fq.glob g v hg).ev ev2, fun x => (fq.fr x).ev ev2, fq.size, fq.defers, fun o ob ho => ?_⟩
 ·rcases hk o with h | ⟨T, e, m, xs, T', e', oP, h1, h2, h3⟩
  ·exact fq.dom o (h.symm.trans ho)
  ·have eZ : hp2 o = none := ho
   rw [h3, h1] at eZ; cases eZ
 ·rcases hk o with h | ⟨T, e, m, xs, T', e', oP, h1, h2, h3⟩
  ·exact (fq.obj o ob (h.symm.trans ho)).ev ev2 fun _ _ => rfl
  ·have eZ : hp2 o = some ob := ho
   rw [h3, h1] at eZ
   cases eZ
   exact (old o T e m xs T' e' oP h1 h2).2
 ·obtain ⟨cx, g1, g2⟩ := fq.pin o ob ho
  obtain ⟨sy, k1, k2⟩ := ev2.fob o _ g1
  exact ⟨sy, k1, g2.trans k2⟩
theorem xL {o : Oper} {x : Operand} {xs : Array Operand} {at' : Array TypeId} {f : FuncId} {cap args : List AV} {σ dc : Sg} {h0 H1 : Hp} {wr : List (Nat × al)} {AE : aq} (ho : o.op = .call ⟨.value x, xs, at'⟩) (hg : fc C)
  (hx : s.ev C x = .fn (.func f) [] cap) (hargs : rens σ (xs.toList.map (s.ev C) ++ cap) = some args) (H : cN σ s.hp h0) (hf : FnH P C.Γ f args h0 (fun ae h1 => ae = AE /\ h1 = H1)) (B : oW σ dc s.hp H1 wr)
  (hall : ∀ o' o φ, dc.get o' = some (o, φ) -> o ∈ wr.map (·.1))
  {s1 : ASt} (fX : ∀ y ∈ o.op.operands.toList, s1.ev C y = s.ev C y) (gm : ∀ k, k ∈ wr.map (·.1) -> s1.hp k = s.hp k) {a : Act} {w : World} (hr : Rel C s1 a w) (hd : ∀ d, o.dst = some d -> d < C.n)
  (K : Act -> World -> Prop) (Q : Exit -> Act -> World -> Prop)
  (hret : ∀ (rs fO : List AV) (a' : Act) (w' : World), AE = .ret rs -> rens dc rs = some fO -> Kr C s1 w ⟨(s1.put o.dst (sU fO)).fr, aG s1.hp wr⟩ a' w' -> K a' w')
  (hren : ∀ rs, AE = .ret rs -> ∃ fO, rens dc rs = some fO)
  (hpan : ∀ (t : TypeId) (n : Int) (w' : World), AE = .panic t n -> Rel C ⟨s1.fr, aG s1.hp wr⟩ a w' -> Q (.panic [{ v := .iface t (.int .i64 n), recovered := false }]) a w') : o.wpIn (fen C.rd) 0 P a w K Q := by
 obtain ⟨im, μ, hi⟩ := hr
 have hpas : ∀ o o' φ, σ.get o = some (o', φ) -> s1.hp o = s.hp o := fun o o' φ h => by
  obtain ⟨xr, e, _⟩ := B.passed o o' φ h
  exact gm o (hall _ _ _ e)
 have H1' := H.of_agree hpas
 have B1 := B.of_agree hall gm
 have sA : s1.ev C x = .fn (.func f) [] cap := (fX x (by rw [ho]; simp [Op.operands, Call.operands])).trans hx
 obtain ⟨hr, cY⟩ := sA ▸ hi.ev x
 simp only [RepA, RepFs] at hr
 obtain ⟨vs, us, hcell, HA, hus⟩ := hr
 subst HA
 have hv : a.eval x = .func (.func f) #[] us.toArray := by
  generalize a.eval x = v at hcell cY
  cases v <;> simp_all [Value.cells, bh, AV.isAgg]
 obtain ⟨la, lc, ra, rc, hargs'⟩ := qQ hargs
 have hA : RepFs w im μ s1.hp (xs.toList.map (s.ev C)) (xs.toList.map a.eval) := by
  refine kD ra (by simp) ?_
  intro i b u hb hu
  rw [List.getElem?_map, Option.map_eq_some_iff] at hb hu
  obtain ⟨y, hy, rfl⟩ := hb
  obtain ⟨y', hy', rfl⟩ := hu
  obtain rfl : y = y' := Option.some.inj (hy.symm.trans hy')
  have hm : y ∈ o.op.operands.toList := by
   rw [ho]
   simp only [Op.operands, Call.operands, Array.toList_append]
   exact List.mem_append.2 (.inr (List.mem_of_getElem? hy))
  rw [← fX y hm]; exact hi.ev y
 have hAll := RepFs.append hA hus
 obtain ⟨hI, hS⟩ := H1'.inv (fun o b h => ⟨(hi.sep o b h).1, (hi.sep o b h).2.1⟩) hi.inj hi.obj
 have hAll' := RepFs.ren hS _ _ _ hargs hAll
 have hcalls := hf.2 w im (fw σ μ) _ hi.imLt (fun g v h => by
  obtain ⟨h1, h2⟩ := (hi.glob g v h).toA (fP (hg g v h))
  exact bC.ofA (RepA.free _ _ (hg g v h) h1) h2) hI hAll'
 have hrun : (execOp a.eval o).run P w = .ok (.enter f (xs.toList.map a.eval ++ us).toArray) w := by
  have := hf.1 (xs.map a.eval ++ us.toArray) w
  have e : (xs.toList.map a.eval ++ us).toArray = xs.map a.eval ++ us.toArray := by apply Array.ext'; simp
  rw [e]
  simp only [execOp, ho, resolve, hv, Deferred.ofValue, Sem.run_bind, Sem.run_pure, Result.andThen_ok, invoke, Array.empty_append, this]
 refine ⟨fun f _ => n9 _ f, ?_⟩
 rw [Oper.semAt_eq _ _ _ (by intro c hc; rw [ho] at hc; cases hc), hrun, Oper.uponIn_enter]
 refine ⟨(fun h => nomatch h), ?_⟩
 have hci : CallsIn (fen C.rd) (0 - 1) P f (xs.toList.map a.eval ++ us).toArray w _ := (callsIn_wide (n := 0 - 1)).2 hcalls
 refine hci.mono ?_
 rintro e w' ⟨ae, h1, bT, bm, ⟨rfl, rfl⟩, kO, he⟩
 have hback := fun (dst : Option Nat) (hd : ∀ d, dst = some d -> d < C.n) (av : AV) (v : Value) hv => hi.backE (dst := dst) H1' B1 kO hd (av := av) (v := v) hv
 cases ae with
 | ret rs =>
  obtain ⟨v, rfl, vs, HA, hveq⟩ := sV he
  obtain ⟨fO, rS⟩ := hren rs rfl
  have hsg' : oV dc bm (gY dc bm μ) h1 (aG s1.hp wr) := ⟨fun o' o φ h => ⟨by simp only [gY, Sg.inv_of_get B1.good h], fun ob ef => by
   obtain ⟨nO, cx, g1, g2, g3⟩ := B1.bwd o' o φ h
   rw [ef] at g1; cases g1
   exact ⟨cx, g3, al.ren_obR g2⟩⟩⟩
  have PY := HO (RepFs.ren hsg' _ _ _ rS HA)
  rw [← hveq] at PY
  exact hret rs fO _ _ rfl rS ⟨im, μ, bT, _, a, hi, (hback o.dst hd _ v PY).1, (hback o.dst hd _ v PY).2⟩
 | panic t n =>
  have JV : e = .panicked [{ v := .iface t (.int .i64 n), recovered := false }] := he
  subst JV
  exact hpan t n w' rfl ⟨bT, _, (hback none (fun d h => by cases h) .undef Go.undef trivial).1⟩
theorem Ks {o : Oper} {x : Operand} {xs : Array Operand} {at' : Array TypeId} {f : FuncId} {cap args rs fO : List AV} {σ dc : Sg} {h0 H1 : Hp} {wr : List (Nat × al)} (ho : o.op = .call ⟨.value x, xs, at'⟩) (hg : fc C)
  (hx : s.ev C x = .fn (.func f) [] cap) (hargs : rens σ (xs.toList.map (s.ev C) ++ cap) = some args) (H : cN σ s.hp h0) (hf : FnH P C.Γ f args h0 (fun ae h1 => ae = .ret rs /\ h1 = H1)) (B : oW σ dc s.hp H1 wr)
  (hall : ∀ o' o φ, dc.get o' = some (o, φ) -> o ∈ wr.map (·.1)) (rS : rens dc rs = some fO) : OpW P C o ⟨o.dst, sU fO, [], wr⟩ s := by
 intro s1 fX gm a w hr hd K Q hK
 refine xL ho hg hx hargs H hf B hall fX (fun k hk => gm k (.inr hk)) hr hd K Q ?_ ?_ ?_
 ·intro r1 r2 a' w' e1 e2 j7
  cases e1
  rw [rS] at e2; cases e2
  exact hK a' w' j7.rel
 ·intro r1 e1; cases e1; exact ⟨fO, rS⟩
 ·intro t n w' e1; cases e1
theorem HP {o : Oper} {x : Operand} {xs : Array Operand} {at' : Array TypeId} {f : FuncId} {cap args rs fO : List AV} {σ dc : Sg} {h0 H1 : Hp} {wr wr2 : List (Nat × al)} {rd2 : List Nat} (ho : o.op = .call ⟨.value x, xs, at'⟩) (hg : fc C)
  (hx : s.ev C x = .fn (.func f) [] cap) (hargs : rens σ (xs.toList.map (s.ev C) ++ cap) = some args) (H : cN σ s.hp h0) (hf : FnH P C.Γ f args h0 (fun ae h1 => ae = .ret rs /\ h1 = H1)) (B : oW σ dc s.hp H1 wr)
  (hall : ∀ o' o φ, dc.get o' = some (o, φ) -> o ∈ wr.map (·.1)) (rS : rens dc rs = some fO)
  (C4 : ∀ k ∈ wr.map (·.1), k ∈ rd2 \/ k ∈ wr2.map (·.1))
  (hk : ∀ (h1 : Hp), (∀ k ∈ wr.map (·.1), h1 k = s.hp k) -> ∀ o, aG h1 wr2 o = aG h1 wr o \/ ∃ (T : TypeId) (e : Ty) (m : Nat) (xs : List e.den) (T' : TypeId) (e' : Ty) (oP : List e'.den), h1 o = some (.arr T e m true xs) /\ aG h1 wr o = some (.arr T' e' m true oP) /\ aG h1 wr2 o = h1 o) :
  OpW P C o ⟨o.dst, sU fO, rd2, wr2⟩ s := by
 intro s1 fX gm a w hr hd K Q hK
 have cY : ∀ k ∈ wr.map (·.1), s1.hp k = s.hp k := fun k hk => gm k (C4 k hk)
 refine xL ho hg hx hargs H hf B hall fX cY hr hd K Q ?_ ?_ ?_
 ·intro r1 r2 a' w' e1 e2 j7
  cases e1
  rw [rS] at e2; cases e2
  exact hK a' w' (j7.keep (hk s1.hp cY))
 ·intro r1 e1; cases e1; exact ⟨fO, rS⟩
 ·intro t n w' e1; cases e1
theorem mr {o : Oper} {x : Operand} {xs : Array Operand} {at' : Array TypeId} {f : FuncId} {cap args : List AV} {t : TypeId} {n : Int} {σ dc : Sg} {h0 H1 : Hp} {wr : List (Nat × al)} (ho : o.op = .call ⟨.value x, xs, at'⟩) (hg : fc C)
  (hx : s.ev C x = .fn (.func f) [] cap) (hargs : rens σ (xs.toList.map (s.ev C) ++ cap) = some args) (H : cN σ s.hp h0) (hf : FnH P C.Γ f args h0 (fun ae h1 => ae = .panic t n /\ h1 = H1)) (B : oW σ dc s.hp H1 wr)
  (hall : ∀ o' o φ, dc.get o' = some (o, φ) -> o ∈ wr.map (·.1)) {s1 : ASt} (fX : ∀ y ∈ o.op.operands.toList, s1.ev C y = s.ev C y) (gm : ∀ k, k ∈ wr.map (·.1) -> s1.hp k = s.hp k)
  {a : Act} {w : World} (hr : Rel C s1 a w) (hd : ∀ d, o.dst = some d -> d < C.n) (K : Act -> World -> Prop) {Q : Exit -> Act -> World -> Prop} (hQ : ∀ a' w', Rel C ⟨s1.fr, aG s1.hp wr⟩ a' w' -> Q (.panic [{ v := .iface t (.int .i64 n), recovered := false }]) a' w') :
  o.wpIn (fen C.rd) 0 P a w K Q := by
 refine xL ho hg hx hargs H hf B hall fX gm hr hd K _ ?_ ?_ ?_
 ·intro r1 r2 a' w' e1; cases e1
 ·intro r1 e1; cases e1
 ·intro t' n' w' e1 j7
  cases e1
  exact hQ _ _ j7
inductive kE (P : Program) (s : ASt) : List ResultVar -> List AV -> Prop
 | nil : kE P s [] []
 | tmp {t : Nat} {a : AV} {l : List ResultVar} {l' : List AV} : s.fr t = a -> a.plain = true -> kE P s l l' -> kE P s (.tmp t :: l) (a :: l')
 | cell {t o : Nat} {T : TypeId} {a : AV} {l : List ResultVar} {l' : List AV} : s.fr t = .op o [] 0 -> s.hp o = some (.box a) -> TyS P T a.asize a.isAgg -> kE P s l l' -> kE P s (.cell t T :: l) (a :: l')
def od (tmps : Array Value) : ResultVar -> Sem Value
 | .tmp t => pure (tmps.getD t Go.undef)
 | .cell x t => do loadVar t (← asAddr (tmps.getD x Go.undef))
theorem kl {im : Nat -> Prop} {μ : Mu} {a : Act} {w : World} (hi : Inv C im μ s a w) : ∀ {l : List ResultVar} {l' : List AV}, kE P s l l' ->
  ∃ vs : List Value, (l.mapM (od a.tmps)).run P w = .ok vs w /\ RepFs w im μ s.hp l' vs
 | _, _, .nil => ⟨[], rfl, by simp [RepFs]⟩
 | _, _, .tmp (t := t) hz eQ h => by
  obtain ⟨vs, h1, h2⟩ := kl hi h
  obtain ⟨g1, g2⟩ := (hz ▸ hi.fr t).toA eQ
  refine ⟨a.tmps.getD t Go.undef :: vs, ?_, ?_⟩
  ·simp only [List.mapM_cons, od, Sem.run_bind, Sem.run_pure, Result.andThen_ok, h1]
  ·simp only [RepFs]
   exact ⟨_, vs, rfl, g1, g2, h2⟩
 | _, _, .cell (t := t) (o := o) (T := T) (a := v) rR ho ht h => by
  obtain ⟨vs, h1, h2⟩ := kl hi h
  obtain ⟨b, u, h3, h4, h5⟩ := qg (rR ▸ hi.fr t)
  obtain ⟨b', cells, T', he, hc, hr⟩ := hi.obj o _ ho
  obtain rfl : b' = b := by rw [h3] at he; cases he; rfl
  have hl := ji ht w (cJ hc) (RepA.length _ _ hr) (fun cY => hY cY)
  obtain ⟨g1, g2⟩ := (hr.toV).toA (AV.plain_of_RepA hr)
  refine ⟨iI v.isAgg cells.toList :: vs, ?_, ?_⟩
  ·simp only [List.mapM_cons, od, Sem.run_bind, h5, asAddr, Sem.run_pure, Result.andThen_ok, hl, h1]
  ·simp only [RepFs]
   exact ⟨_, vs, rfl, g1, g2, h2⟩
def jH : List AV -> Nat -> AV
 | [], _ => .undef
 | a :: _, 0 => a
 | _ :: l, x + 1 => jH l x
theorem jI : ∀ (l : List AV) (x : Nat), jH l x = (l[x]?).getD .undef
 | [], x => by simp [jH]
 | a :: l, 0 => rfl
 | a :: l, x + 1 => by simp only [jH, List.getElem?_cons_succ]; exact jI l x
def Ah (W : World) (im : Nat -> Prop) (μ : Mu) (h0 : Hp) (n : Nat) (Γ : Nat -> Option AV) (nm : Bool := false) : Ctx := ⟨W, im, fun b => ∃ o, (μ o).blk = some b, n, [], Γ, h0, μ, none, nm⟩
theorem jk {W : World} {im : Nat -> Prop} {μ : Mu} {hp : Hp} : ∀ {l : List AV} {vs : List Value}, RepFs W im μ hp l vs -> vs.length = l.length
 | [], vs, h => by simp only [RepFs] at h; subst h; rfl
 | a :: l, vs, h => by simp only [RepFs] at h; obtain ⟨v, us, rfl, _, _, h3⟩ := h; simp [jk h3]
theorem sW {Γ : Nat -> Option AV} {W : World} {im : Nat -> Prop} {μ : Mu} {h0 : Hp} {vals : List Value} {args : List AV} {n : Nat} (iR : ∀ b, im b -> b < W.heap.size) (hgf : ∀ g v, Γ g = some v -> v.free = true) (hglob : lH Γ W im) (hI : kj W im μ h0)
  (hargs : RepFs W im μ h0 args vals) (hn : args.length <= n) (nm : Bool := false) : Inv (Ah W im μ h0 n Γ nm) im μ ⟨jH args, h0⟩ { tmps := vals.toArray ++ Array.replicate (n - vals.toArray.size) Go.undef, defers := [] } W := by
 have hlen := jk hargs
 refine ⟨rfl, rfl, rfl, Nat.le_refl _, fun _ _ _ => rfl, fun _ h => h, fun _ h => .inl h, iR, (fun o b h => ⟨(hI.sep o b h).1, (hI.sep o b h).2, .inl ⟨o, h⟩⟩), hI.inj, hI.dom, hI.obj, fun g v h => ?_, ?_, ?_, ⟨[], rfl, List.nodup_nil, fun _ => rfl, fun r hr => by cases hr⟩, fun o ob h => ⟨ob, h, cZ.refl _ _⟩⟩
 ·obtain ⟨h1, h2⟩ := (hglob g v h).toA (fP (hgf g v h))
  exact bC.ofA (RepA.free _ _ (hgf g v h) h1) h2
 ·intro x
  simp only
  rw [jI]
  cases hx : args[x]? with
  | none => trivial
  | some av =>
   obtain ⟨v, h1, h2, h3⟩ := RepFs.get hargs hx
   have cn : x < vals.length := (List.getElem?_eq_some_iff.1 h1).1
   have : (vals.toArray ++ Array.replicate (n - vals.toArray.size) Go.undef).getD x Go.undef = v := by
    rw [Array.getD_eq_getD_getElem?, Array.getElem?_append_left (by simpa using cn)]
    simp [h1]
   rw [this]
   exact bC.ofA h2 h3
 ·simp [Ah]; omega
theorem qR {fn : Func} {tmps : Array Value} {w : World} {im : Nat -> Prop} {μ : Mu} {hp : Hp} {rs : List AV} {vs : List Value} (h1 : (fn.results.toList.mapM (od tmps)).run P w = .ok vs w) (h2 : RepFs w im μ hp rs vs) :
  ∃ v, (results fn tmps).run P w = .ok v w /\ kC w im μ hp (.ret rs) (.returned v) := by
 have hmapM : (fn.results.mapM (od tmps)).run P w = .ok vs.toArray w := by
  rw [Array.mapM_eq_mapM_toList, Sem.run_map, h1]; rfl
 have key : ∀ g : ResultVar -> Sem Value, (∀ r, g r = od tmps r) -> ((do let us ← fn.results.mapM g; pure (if h : us.size = 1 then us[0] else .tuple us)) : Sem Value).run P w = .ok (if h : vs.toArray.size = 1 then vs.toArray[0] else .tuple vs.toArray) w := by
  intro g hg
  obtain rfl : g = od tmps := funext hg
  simp only [Sem.run_bind, hmapM, Result.andThen_ok]
  rfl
 refine ⟨if h : vs.toArray.size = 1 then vs.toArray[0] else .tuple vs.toArray, ?_, ?_⟩
 ·unfold results
  exact key _ (fun r => by cases r <;> rfl)
 ·match rs, vs, h2 with
  | [], vs, xp => 
   simp only [RepFs] at xp
   subst xp
   exact ⟨[], rfl, by simp [RepFs]⟩
  | [r], vs, xp =>
   simp only [RepFs] at xp
   obtain ⟨v, us, rfl, g1, g2, rfl⟩ := xp
   exact ⟨v, rfl, g1, g2⟩
  | r :: r' :: rs, vs, xp =>
   have h3 := xp
   simp only [RepFs] at h3
   obtain ⟨v, us, rfl, g1, g2, v', us', rfl, _⟩ := h3
   exact ⟨v :: v' :: us', by simp, xp⟩
structure Xs (rs : List Nat) (w w' : World) : Prop where
 os : w'.os = w.os
 tape : w'.tape = w.tape
 output : w'.output = w.output
 size : w'.heap.size = w.heap.size
 heap : ∀ b, b ∉ rs -> w'.heap[b]? = w.heap[b]?
theorem oX {F : Fence} {n : Nat} {fn : Func} {tmps : Array Value} {R : Ending -> World -> Prop} {ds : List Deferred} {u : FrameMode} (hu : u ≠ .run) : ∀ (rs : List Nat) (w : World), rs.Nodup -> (∀ r ∈ rs, w.heap[r]? = some (.deferred (some []))) ->
  (∀ w', Xs rs w w' -> LeavesInM F n P fn tmps R ds u w') -> LeavesInM F n P fn tmps R (rs.map Kf ++ ds) u w
 | [], w, _, _, h => h w ⟨rfl, rfl, rfl, rfl, fun _ _ => rfl⟩
 | r :: rs, w, hn, hr, h => by
  obtain ⟨hn1, hn2⟩ := List.nodup_cons.1 hn
  have h0 := hr r (by simp)
  refine ⟨hu, .inl ⟨r, _, rfl, run_takeDeferred h0, oX hu rs _ hn2 (fun r' j7 => ?_) (fun w' hs => h w' ?_)⟩⟩
  ·rw [World.putObj_heap_other (by rintro rfl; exact hn1 j7)]
   exact hr r' (by simp [j7])
  ·refine ⟨hs.os, hs.tape, hs.output, by rw [hs.size]; simp, fun b hb => ?_⟩
   rw [hs.heap b (fun hm => hb (by simp [hm])), World.putObj_heap_other (by rintro rfl; exact hb (by simp))]
theorem Inv.unmark {C : Ctx} {im : Nat -> Prop} {μ : Mu} {s : ASt} {a : Act} {w w' : World} {rs : List Nat} (hi : Inv C im μ s a w) (hm : zM C im μ w rs) (hs : Xs rs w w') : Inv C im μ s { a with defers := C.defers } w' := by
 have hb : ∀ b, (∀ o, (μ o).blk ≠ some b) \/ True -> b ∉ rs -> w'.heap[b]? = w.heap[b]? := fun b _ h => hs.heap b h
 have iR : ∀ b, im b -> b ∉ rs := fun b h hr => (hm.all b hr).2.2.1 h
 have hbl : ∀ o b, (μ o).blk = some b -> b ∉ rs := fun o b h hr => (hm.all b hr).2.2.2.1 o h
 have ev : Ev w im μ s.hp w' im μ s.hp := ⟨fun _ h => h, fun b h => hs.heap b (iR b h), fun o ob ho => ⟨ob, ho, cZ.refl _ _⟩⟩
 exact ⟨hs.os.trans hi.os, hs.tape.trans hi.tape, hs.output.trans hi.output, by rw [hs.size]; exact hi.grow, fun b h1 h2 => (hs.heap b (fun hr => by have := (hm.all b hr).1; omega)).trans (hi.old b h1 h2), hi.imC, hi.imNew, fun b h => by rw [hs.size]; exact hi.imLt b h,
  fun o b h => by rw [hs.size]; exact hi.sep o b h, hi.inj, hi.dom, fun o ob ho => (hi.obj o ob ho).ev ev (fun b h => hs.heap b (hbl o b h)), fun g v hg => (hi.glob g v hg).ev ev, fun x => (hi.fr x).ev ev, hi.size, ⟨[], by simp, List.nodup_nil, fun _ => rfl, fun r hr => by cases hr⟩, hi.pin⟩
def Kt (σ : Sg) (a a' : AV) : Prop := a' = .undef \/ a.ren σ = some a' \/ ∃ l l', a = .tup l /\ a' = .tup l' /\ rens σ l = some l'
theorem Kt.sound {w : World} {im : Nat -> Prop} {μ bm : Mu} {hp bq : Hp} {σ : Sg} {a a' : AV} (h : oV σ μ bm hp bq) (hr : Kt σ a a') {v : Value} (hv : bC w im μ hp a v) : bC w im bm bq a' v := by
 rcases hr with rfl | hr | ⟨l, l', rfl, rfl, hr⟩
 ·trivial
 ·obtain ⟨h1, h2⟩ := hv.toA (wg hr)
  exact bC.ofA (RepA.ren h _ _ _ hr h1) (h2.trans (AV.ren_agg _ _ hr))
 ·obtain ⟨vs, e, h1⟩ := hv
  exact ⟨vs, e, RepFs.ren h _ _ _ hr h1⟩
theorem cZ.obR {ob nO sy : al} {p q : Pl} (h2 : cZ ob p nO q) (h4 : ObR .keep nO sy) : cZ ob p sy q := by
 cases nO with
 | box v =>
  cases sy with
  | arr _ _ _ _ _ => exact h4.elim
  | rc _ => exact h4.elim
  | box v2 =>
   cases ob with
   | box v0 => exact h2
   | rc _ => exact h2.elim
   | arr T e m z xs => obtain ⟨_, _, _, h5, _⟩ := h2; cases h5
 | rc v =>
  cases sy with
  | arr _ _ _ _ _ => exact h4.elim
  | box _ => exact h4.elim
  | rc v2 =>
   cases ob with
   | box v0 => exact h2.elim
   | rc _ => exact ⟨h2.1, (show v2.isMap = v.isMap from h4).trans h2.2⟩
   | arr T e m z xs => obtain ⟨_, _, _, h5, _⟩ := h2; cases h5
 | arr T e m z xs =>
  obtain ⟨m', h5, rfl⟩ := h4
  cases h5
  exact h2
theorem Fh {s s' : ASt} {σ : Sg} (hg : fc C) (H : cN σ s.hp s'.hp) (rR : ∀ x, Kt σ (s.fr x) (s'.fr x)) (hpin : ∀ o ob, C.h0 o = some ob -> σ.get o = some (o, .keep)) : Le C s s' := by
 rintro a w ⟨im, μ, hi⟩
 obtain ⟨hI, hS⟩ := H.inv (fun o b h => ⟨(hi.sep o b h).1, (hi.sep o b h).2.1⟩) hi.inj hi.obj
 have hinb : ∀ o' b, (fw σ μ o').blk = some b -> ∃ o, (μ o).blk = some b := fun o' b h => by
  unfold fw at h
  cases hq : σ.inv o' with
  | none => rw [hq] at h; cases h
  | some o => rw [hq] at h; exact ⟨o, h⟩
 refine ⟨im, fw σ μ, hi.os, hi.tape, hi.output, hi.grow, hi.old, hi.imC, hi.imNew, hi.imLt, ?_, hI.inj, hI.dom, hI.obj, ?_, fun x => (rR x).sound hS (hi.fr x), hi.size, ?_, ?_⟩
 ·intro o' b h
  obtain ⟨o, h1⟩ := hinb o' b h
  exact hi.sep o b h1
 ·intro g v h
  obtain ⟨h1, h2⟩ := (hi.glob g v h).toA (fP (hg g v h))
  exact bC.ofA (RepA.free _ _ (hg g v h) h1) h2
 ·obtain ⟨rs, h1, h2⟩ := hi.defers
  refine ⟨rs, h1, h2.nodup, h2.none, fun r hr => ?_⟩
  obtain ⟨g1, g2, g3, g4, g5⟩ := h2.all r hr
  exact ⟨g1, g2, g3, fun o' eZ => by obtain ⟨o, h⟩ := hinb o' r eZ; exact g4 o h, g5⟩
 ·intro o ob h
  have hσ := hpin o ob h
  obtain ⟨nO, h1, h2⟩ := hi.pin o ob h
  obtain ⟨g1, g2⟩ := hS.ob o o .keep hσ
  obtain ⟨sy, h3, h4⟩ := g2 nO h1
  refine ⟨sy, h3, ?_⟩
  rw [g1]
  cases nO with
  | box v =>
   cases sy with
   | arr _ _ _ _ _ => exact h4.elim
   | rc _ => exact h4.elim
   | box v2 =>
    cases ob with
    | box v0 => exact h2
    | rc _ => exact h2.elim
    | arr T e m z xs => obtain ⟨_, _, _, h5, _⟩ := h2; cases h5
  | rc v =>
   cases sy with
   | arr _ _ _ _ _ => exact h4.elim
   | box _ => exact h4.elim
   | rc v2 =>
    cases ob with
    | box v0 => exact h2.elim
    | rc _ => exact ⟨h2.1, (show v2.isMap = v.isMap from h4).trans h2.2⟩
    | arr T e m z xs => obtain ⟨_, _, _, h5, _⟩ := h2; cases h5
  | arr T e m z xs =>
   obtain ⟨m', h5, rfl⟩ := h4
   cases h5
   exact h2
theorem wh {o : Nat} {T : TypeId} {e : Ty} {m : Nat} {xs : List e.den} (h : s.hp o = some (.arr T e m false xs)) : Le C s ⟨s.fr, aG s.hp [(o, .arr T e m true xs)]⟩ := by
 rintro a w ⟨im, μ, hi⟩
 have hone := dP s.hp o (.arr T e m true xs)
 have lC : ∀ x, x ≠ o -> aG s.hp [(o, .arr T e m true xs)] x = s.hp x := fun x hx => jj s.hp _ hx
 rcases hi.obj o _ h with ⟨ad, bq, rfl⟩ | ⟨_, b, cap, cells, bq, hb, h1, h2, h3, h4⟩ | ⟨hz, _⟩
 ·-- nothing in memory
  have gU : ∀ ob, s.hp o = some ob -> cZ ob (μ o) (.arr T e m true []) (μ o) := fun ob ef => by
   rw [h] at ef; cases ef; exact ⟨m, true, [], rfl, .inl ⟨rfl, rfl, .inl rfl⟩⟩
  have hw : ki w w (μ o).blk := ⟨rfl, rfl, rfl, Nat.le_refl _, fun _ _ _ => rfl⟩
  have := hi.obj1 (dst := none) (av := .undef) (v := Go.undef) (qe := μ o) gU hw (fun b hb => by rw [bq] at hb; cases hb) (.inl ⟨ad, bq, rfl⟩) (fun d h => by cases h) trivial
  exact ⟨im, _, this⟩
 ·have hblk : (μ o).blk = some b := by rw [bq]; rfl
  obtain ⟨s1, s2, s3⟩ := hi.sep o b hblk
  have ev : Ev w im μ s.hp w (fun k => im k \/ k = b) (jD μ o (.fz b cap)) (aG s.hp [(o, .arr T e m true xs)]) := by
   refine ⟨fun _ h => .inl h, fun _ _ => rfl, fun x ob hx => ?_⟩
   by_cases zK : x = o
   ·subst zK
    rw [h] at hx; cases hx
    exact ⟨_, hone, m, true, xs, rfl, .inl ⟨rfl, rfl, .inr ⟨b, cap, bq, bO _ _ _⟩⟩⟩
   ·exact ⟨ob, by rw [lC x zK]; exact hx, by rw [da _ _ zK]; exact cZ.refl _ _⟩
  refine ⟨_, _, hi.step (dst := none) (av := .undef) (v := Go.undef) (a := a) ev rfl rfl rfl (Nat.le_refl _) (fun _ _ _ => rfl) ?_ ?_ ?_ ?_ ?_ ?_ (fun d h => by cases h) trivial⟩
  ·rintro k (hk | rfl)
   ·exact .inl hk
   ·exact .inr (.inl ⟨o, hblk⟩)
  ·rintro k (hk | rfl)
   ·exact hi.imLt k hk
   ·exact s2
  ·intro x k hx
   by_cases zK : x = o
   ·subst zK; rw [bO] at hx; cases hx
   ·rw [da _ _ zK] at hx
    obtain ⟨g1, g2, _⟩ := hi.sep x k hx
    refine ⟨?_, g2, .inl ⟨x, hx⟩⟩
    rintro (hk | rfl)
    ·exact g1 hk
    ·exact zK (hi.inj _ _ _ hx hblk)
  ·intro x y k hx hy
   by_cases zK : x = o
   ·subst zK; rw [bO] at hx; cases hx
   ·by_cases hyo : y = o
    ·subst hyo; rw [bO] at hy; cases hy
    ·rw [da _ _ zK] at hx; rw [da _ _ hyo] at hy
     exact hi.inj _ _ k hx hy
  ·intro x hx
   by_cases zK : x = o
   ·subst zK; rw [hone] at hx; cases hx
   ·rw [lC x zK] at hx; rw [da _ _ zK]; exact hi.dom x hx
  ·intro x ob hx
   by_cases zK : x = o
   ·subst zK
    rw [hone] at hx; cases hx
    rw [bO]
    refine .inr (.inr ⟨rfl, b, cap, _, rfl, .inr rfl, h1, h2, ?_, aU.mono (aM.mono ev.fim ev.fheap e) _ _ h4⟩)
    have := (cJ hb).sub 0 (xs.length * e.size)
    simpa using this
   ·rw [lC x zK] at hx
    rw [da _ _ zK]
    exact (hi.obj x ob hx).ev ev (fun _ _ => rfl)
 ·cases hz
end
end Go.Vm
