/- Part K of the abstract machine: the call of a function; a function's body; a state under other names; an array that turns no more. -/
import Derived.Test.YtckoidchbbfkkaaGreatDoorS10
import Derived.RangeFuncRecord
namespace Go.Vm

section
variable {P : Program} {C : Ctx} {s : ASt}

theorem ren_plain {σ : Sg} {a a' : AV} (h : a.ren σ = some a') : a.plain = true := by cases a <;> first | rfl | (simp only [AV.ren] at h; cases h)

theorem repFs_of_rens {w : World} {im : Nat → Prop} {μ : Mu} {hp : Hp} {σ : Sg} : ∀ {l l' : List AV} {vs : List Value}, rens σ l = some l' → vs.length = l.length → (∀ (i : Nat) (a : AV) (v : Value), l[i]? = some a → vs[i]? = some v → RepV w im μ hp a v) → RepFs w im μ hp l vs
  | [], _, vs, _, hl, _ => by
    have : vs = [] := List.eq_nil_of_length_eq_zero (by simpa using hl)
    subst this; simp [RepFs]
  | a :: l, l', v :: vs, h, hl, hr => by
    simp only [rens] at h
    cases h1 : a.ren σ with
    | none => rw [h1] at h; cases h
    | some a1 =>
      rw [h1] at h
      simp only at h
      cases h2 : rens σ l with
      | none => rw [h2] at h; cases h
      | some l1 =>
        obtain ⟨g1, g2⟩ := (hr 0 a v rfl rfl).toA (ren_plain h1)
        simp only [RepFs]
        exact ⟨v, vs, rfl, g1, g2, repFs_of_rens h2 (by simpa using hl) (fun i b u hb hu => hr (i + 1) b u (by simpa using hb) (by simpa using hu))⟩
  | _ :: _, _, [], _, hl, _ => by simp at hl

theorem rens_append {σ : Sg} : ∀ {l m r : List AV}, rens σ (l ++ m) = some r → ∃ l' m', rens σ l = some l' ∧ rens σ m = some m' ∧ r = l' ++ m'
  | [], m, r, h => ⟨[], r, rfl, h, rfl⟩
  | a :: l, m, r, h => by
    simp only [List.cons_append, rens] at h ⊢
    cases h1 : a.ren σ with
    | none => rw [h1] at h; cases h
    | some a1 =>
      rw [h1] at h
      simp only at h ⊢
      cases h2 : rens σ (l ++ m) with
      | none => rw [h2] at h; cases h
      | some r1 =>
        rw [h2] at h
        cases h
        obtain ⟨l', m', g1, g2, rfl⟩ := rens_append h2
        exact ⟨a1 :: l', m', by rw [g1], g2, rfl⟩

theorem RepFs.append {w : World} {im : Nat → Prop} {μ : Mu} {hp : Hp} : ∀ {l m : List AV} {vs us : List Value}, RepFs w im μ hp l vs → RepFs w im μ hp m us → RepFs w im μ hp (l ++ m) (vs ++ us)
  | [], _, vs, us, h, h' => by
    simp only [RepFs] at h; subst h; exact h'
  | a :: l, m, vs, us, h, h' => by
    simp only [RepFs] at h
    obtain ⟨v, vs', rfl, h1, h2, h3⟩ := h
    simp only [List.cons_append, RepFs]
    exact ⟨v, vs' ++ us, rfl, h1, h2, RepFs.append h3 h'⟩

theorem Handed.of_agree {σ : Sg} {hp hp1 h0 : Hp} (H : Handed σ hp h0) (hk : ∀ o o' φ, σ.get o = some (o', φ) → hp1 o = hp o) : Handed σ hp1 h0 :=
  ⟨H.good, fun o o' φ h => by rw [hk o o' φ h]; exact H.fwd o o' φ h, H.dom⟩

theorem Back.of_agree {σ σ' : Sg} {hp hp1 H1 : Hp} {wr : List (Nat × AObj)} (B : Back σ σ' hp H1 wr) (hall : ∀ o' o φ, σ'.get o' = some (o, φ) → o ∈ wr.map (·.1)) (hk : ∀ o, o ∈ wr.map (·.1) → hp1 o = hp o) : Back σ σ' hp1 H1 wr :=
  ⟨B.good, fun o' o φ h => by
    obtain ⟨ob, ob', h1, h2, h3⟩ := B.bwd o' o φ h
    exact ⟨ob, ob', h1, h2, by rw [hpSet_congr (hp' := hp) (hall o' o φ h)]; exact h3⟩, B.passed, fun o' o φ h => (B.fresh o' o φ h).imp id fun ⟨a, b⟩ => ⟨a, by rw [hk o (hall o' o φ h)]; exact b⟩, B.keys⟩

/-- the state behind, and how it came of the one ahead -/
def RelE (C : Ctx) (s1 : ASt) (w : World) (s2 : ASt) (a' : Act) (w' : World) : Prop := ∃ im μ im' μ' a, Inv C im μ s1 a w ∧ Inv C im' μ' s2 a' w' ∧ Ev w im μ s1.hp w' im' μ' s2.hp
theorem RelE.rel {s1 s2 : ASt} {w w' : World} {a' : Act} (h : RelE C s1 w s2 a' w') : Rel C s2 a' w' := by
  obtain ⟨_, _, im', μ', _, _, h, _⟩ := h
  exact ⟨im', μ', h⟩
/-- arrays that turn no more are what they were -/
theorem RelE.keep {s1 s2 : ASt} {w w' : World} {a' : Act} {hp2 : Hp} (h : RelE C s1 w s2 a' w')
    (hk : ∀ o, hp2 o = s2.hp o ∨ ∃ (T : TypeId) (e : Ty) (m : Nat) (xs : List e.den) (T' : TypeId) (e' : Ty) (xs' : List e'.den), s1.hp o = some (.arr T e m true xs) ∧ s2.hp o = some (.arr T' e' m true xs') ∧ hp2 o = s1.hp o) : Rel C ⟨s2.fr, hp2⟩ a' w' := by
  obtain ⟨im, μ, im', μ', a, hi, hi', hev⟩ := h
  have old : ∀ (o : Nat) (T : TypeId) (e : Ty) (m : Nat) (xs : List e.den) (T' : TypeId) (e' : Ty) (xs' : List e'.den), s1.hp o = some (.arr T e m true xs) → s2.hp o = some (.arr T' e' m true xs') →
      ObEv (.arr T' e' m true xs') (μ' o) (.arr T e m true xs) (μ' o) ∧ RepO w' im' μ' hp2 (μ' o) (.arr T e m true xs) := by
    intro o T e m xs T' e' xs' h1 h2
    obtain ⟨ob', g1, m1, z1, ys, rfl, g2⟩ := hev.fob o _ h1
    rw [h2] at g1
    cases g1
    rcases g2 with ⟨_, g3, g4⟩ | g2
    · have hr := hi.obj o _ h1
      have hmu : μ' o = μ o := by
        rcases g4 with g4 | ⟨b, cap, g4, g5⟩
        · exact g4
        · rcases hr with ⟨ad, hr, _⟩ | ⟨hr, _⟩ | ⟨_, b', cap', cs, hr, _⟩
          · rw [g4] at hr; cases hr
          · cases hr
          · rw [g4] at hr; cases hr
      refine ⟨⟨m, true, xs, rfl, .inl ⟨rfl, g3.symm, .inl rfl⟩⟩, ?_⟩
      rw [hmu]
      rcases hr with hr | ⟨hr, _⟩ | ⟨_, b', cap', cs, q1, q2, q3, q4, q5, q6⟩
      · exact .inl hr
      · cases hr
      · exact .inr (.inr ⟨rfl, b', cap', cs, q1, hev.fim _ q2, q3, q4, q5.mono (hev.fheap _ q2), RepL.mono (RepD.mono hev.fim hev.fheap e) _ _ q6⟩)
    · omega
  have ev2 : Ev w' im' μ' s2.hp w' im' μ' hp2 := by
    refine ⟨fun _ h => h, fun _ _ => rfl, fun o ob ho => ?_⟩
    rcases hk o with h | ⟨T, e, m, xs, T', e', xs', h1, h2, h3⟩
    · exact ⟨ob, by rw [h]; exact ho, ObEv.refl _ _⟩
    · rw [h2] at ho
      cases ho
      exact ⟨_, h3.trans h1, (old o T e m xs T' e' xs' h1 h2).1⟩
  refine ⟨im', μ', hi'.os, hi'.tape, hi'.output, hi'.grow, hi'.old, hi'.imC, hi'.imNew, hi'.imLt, hi'.sep, hi'.inj, fun o ho => ?_, fun o ob ho => ?_, fun g v hg => (hi'.glob g v hg).ev ev2, fun x => (hi'.fr x).ev ev2, hi'.size, hi'.defers, fun o ob ho => ?_⟩
  · rcases hk o with h | ⟨T, e, m, xs, T', e', xs', h1, h2, h3⟩
    · exact hi'.dom o (h.symm.trans ho)
    · have ho' : hp2 o = none := ho
      rw [h3, h1] at ho'; cases ho'
  · rcases hk o with h | ⟨T, e, m, xs, T', e', xs', h1, h2, h3⟩
    · exact (hi'.obj o ob (h.symm.trans ho)).ev ev2 fun _ _ => rfl
    · have ho' : hp2 o = some ob := ho
      rw [h3, h1] at ho'
      cases ho'
      exact (old o T e m xs T' e' xs' h1 h2).2
  · obtain ⟨ob', g1, g2⟩ := hi'.pin o ob ho
    obtain ⟨ob2, k1, k2⟩ := ev2.fob o _ g1
    exact ⟨ob2, k1, g2.trans k2⟩

theorem call_wp {o : Oper} {x : Operand} {xs : Array Operand} {at' : Array TypeId} {f : FuncId} {cap args : List AV} {σ σ' : Sg} {h0 H1 : Hp} {wr : List (Nat × AObj)} {AE : AEnd} (ho : o.op = .call ⟨.value x, xs, at'⟩) (hg : GlobFree C)
    (hx : s.ev C x = .fn (.func f) [] cap) (hargs : rens σ (xs.toList.map (s.ev C) ++ cap) = some args) (H : Handed σ s.hp h0) (hf : FnH P C.Γ f args h0 (fun ae h1 => ae = AE ∧ h1 = H1)) (B : Back σ σ' s.hp H1 wr)
    (hall : ∀ o' o φ, σ'.get o' = some (o, φ) → o ∈ wr.map (·.1))
    {s1 : ASt} (hop : ∀ y ∈ o.op.operands.toList, s1.ev C y = s.ev C y) (hhp : ∀ k, k ∈ wr.map (·.1) → s1.hp k = s.hp k) {a : Act} {w : World} (hr : Rel C s1 a w) (hd : ∀ d, o.dst = some d → d < C.n)
    (K : Act → World → Prop) (Q : Exit → Act → World → Prop)
    (hret : ∀ (rs rs' : List AV) (a' : Act) (w' : World), AE = .ret rs → rens σ' rs = some rs' → RelE C s1 w ⟨(s1.put o.dst (retAV rs')).fr, hpSet s1.hp wr⟩ a' w' → K a' w')
    (hren : ∀ rs, AE = .ret rs → ∃ rs', rens σ' rs = some rs')
    (hpan : ∀ (t : TypeId) (n : Int) (w' : World), AE = .panic t n → Rel C ⟨s1.fr, hpSet s1.hp wr⟩ a w' → Q (.panic [{ v := .iface t (.int .i64 n), recovered := false }]) a w') : o.wpIn (fen C.rd) 0 P a w K Q := by
  obtain ⟨im, μ, hi⟩ := hr
  have hpas : ∀ o o' φ, σ.get o = some (o', φ) → s1.hp o = s.hp o := fun o o' φ h => by
    obtain ⟨φ', e, _⟩ := B.passed o o' φ h
    exact hhp o (hall _ _ _ e)
  have H1' := H.of_agree hpas
  have B1 := B.of_agree hall hhp
  have hx1 : s1.ev C x = .fn (.func f) [] cap := (hop x (by rw [ho]; simp [Op.operands, Call.operands])).trans hx
  obtain ⟨hr, hag⟩ := hx1 ▸ hi.ev x
  simp only [RepA, RepFs] at hr
  obtain ⟨vs, us, hcell, hvs, hus⟩ := hr
  subst hvs
  have hv : a.eval x = .func (.func f) #[] us.toArray := by
    generalize a.eval x = v at hcell hag
    cases v <;> simp_all [Value.cells, vIsAgg, AV.isAgg]
  obtain ⟨la, lc, ra, rc, hargs'⟩ := rens_append hargs
  have hA : RepFs w im μ s1.hp (xs.toList.map (s.ev C)) (xs.toList.map a.eval) := by
    refine repFs_of_rens ra (by simp) ?_
    intro i b u hb hu
    rw [List.getElem?_map, Option.map_eq_some_iff] at hb hu
    obtain ⟨y, hy, rfl⟩ := hb
    obtain ⟨y', hy', rfl⟩ := hu
    obtain rfl : y = y' := Option.some.inj (hy.symm.trans hy')
    have hm : y ∈ o.op.operands.toList := by
      rw [ho]
      simp only [Op.operands, Call.operands, Array.toList_append]
      exact List.mem_append.2 (.inr (List.mem_of_getElem? hy))
    rw [← hop y hm]; exact hi.ev y
  have hAll := RepFs.append hA hus
  obtain ⟨hI, hS⟩ := H1'.inv (fun o b h => ⟨(hi.sep o b h).1, (hi.sep o b h).2.1⟩) hi.inj hi.obj
  have hAll' := RepFs.ren hS _ _ _ hargs hAll
  have hcalls := hf.2 w im (muIn σ μ) _ hi.imLt (fun g v h => by
    obtain ⟨h1, h2⟩ := (hi.glob g v h).toA (free_plain (hg g v h))
    exact RepV.ofA (RepA.free _ _ (hg g v h) h1) h2) hI hAll'
  have hrun : (execOp a.eval o).run P w = .ok (.enter f (xs.toList.map a.eval ++ us).toArray) w := by
    have := hf.1 (xs.map a.eval ++ us.toArray) w
    have e : (xs.toList.map a.eval ++ us).toArray = xs.map a.eval ++ us.toArray := by apply Array.ext'; simp
    rw [e]
    simp only [execOp, ho, resolve, hv, Deferred.ofValue, Sem.run_bind, Sem.run_pure, Result.andThen_ok, invoke, Array.empty_append, this]
  refine ⟨fun f _ => fen_fn _ f, ?_⟩
  rw [Oper.semAt_eq _ _ _ (by intro c hc; rw [ho] at hc; cases hc), hrun, Oper.uponIn_enter]
  refine ⟨(fun h => nomatch h), ?_⟩
  have hci : CallsIn (fen C.rd) (0 - 1) P f (xs.toList.map a.eval ++ us).toArray w _ := (callsIn_wide (n := 0 - 1)).2 hcalls
  refine hci.mono ?_
  rintro e w' ⟨ae, h1, im', μ', ⟨rfl, rfl⟩, hst, he⟩
  have hback := fun (dst : Option Nat) (hd : ∀ d, dst = some d → d < C.n) (av : AV) (v : Value) hv => hi.backE (dst := dst) H1' B1 hst hd (av := av) (v := v) hv
  cases ae with
  | ret rs =>
    obtain ⟨v, rfl, vs, hvs, hveq⟩ := endRep_ret he
    obtain ⟨rs', hrs⟩ := hren rs rfl
    have hsg' : SgOK σ' μ' (muOut σ' μ' μ) h1 (hpSet s1.hp wr) := ⟨fun o' o φ h => ⟨by simp only [muOut, Sg.inv_of_get B1.good h], fun ob hob => by
      obtain ⟨ob1, ob', g1, g2, g3⟩ := B1.bwd o' o φ h
      rw [hob] at g1; cases g1
      exact ⟨ob', g3, AObj.ren_obR g2⟩⟩⟩
    have hv' := retAV_rep (RepFs.ren hsg' _ _ _ hrs hvs)
    rw [← hveq] at hv'
    exact hret rs rs' _ _ rfl hrs ⟨im, μ, im', _, a, hi, (hback o.dst hd _ v hv').1, (hback o.dst hd _ v hv').2⟩
  | panic t n =>
    have he' : e = .panicked [{ v := .iface t (.int .i64 n), recovered := false }] := he
    subst he'
    exact hpan t n w' rfl ⟨im', _, (hback none (fun d h => by cases h) .undef Go.undef trivial).1⟩

/-- a call that returns -/
theorem opW_call {o : Oper} {x : Operand} {xs : Array Operand} {at' : Array TypeId} {f : FuncId} {cap args rs rs' : List AV} {σ σ' : Sg} {h0 H1 : Hp} {wr : List (Nat × AObj)} (ho : o.op = .call ⟨.value x, xs, at'⟩) (hg : GlobFree C)
    (hx : s.ev C x = .fn (.func f) [] cap) (hargs : rens σ (xs.toList.map (s.ev C) ++ cap) = some args) (H : Handed σ s.hp h0) (hf : FnH P C.Γ f args h0 (fun ae h1 => ae = .ret rs ∧ h1 = H1)) (B : Back σ σ' s.hp H1 wr)
    (hall : ∀ o' o φ, σ'.get o' = some (o, φ) → o ∈ wr.map (·.1)) (hrs : rens σ' rs = some rs') : OpW P C o ⟨o.dst, retAV rs', [], wr⟩ s := by
  intro s1 hop hhp a w hr hd K Q hK
  refine call_wp ho hg hx hargs H hf B hall hop (fun k hk => hhp k (.inr hk)) hr hd K Q ?_ ?_ ?_
  · intro r1 r2 a' w' e1 e2 hr'
    cases e1
    rw [hrs] at e2; cases e2
    exact hK a' w' hr'.rel
  · intro r1 e1; cases e1; exact ⟨rs', hrs⟩
  · intro t n w' e1; cases e1

/-- the same, where arrays that turn no more are left as they were -/
theorem opW_callF {o : Oper} {x : Operand} {xs : Array Operand} {at' : Array TypeId} {f : FuncId} {cap args rs rs' : List AV} {σ σ' : Sg} {h0 H1 : Hp} {wr wr2 : List (Nat × AObj)} {rd2 : List Nat} (ho : o.op = .call ⟨.value x, xs, at'⟩) (hg : GlobFree C)
    (hx : s.ev C x = .fn (.func f) [] cap) (hargs : rens σ (xs.toList.map (s.ev C) ++ cap) = some args) (H : Handed σ s.hp h0) (hf : FnH P C.Γ f args h0 (fun ae h1 => ae = .ret rs ∧ h1 = H1)) (B : Back σ σ' s.hp H1 wr)
    (hall : ∀ o' o φ, σ'.get o' = some (o, φ) → o ∈ wr.map (·.1)) (hrs : rens σ' rs = some rs')
    (hrd : ∀ k ∈ wr.map (·.1), k ∈ rd2 ∨ k ∈ wr2.map (·.1))
    (hk : ∀ (h1 : Hp), (∀ k ∈ wr.map (·.1), h1 k = s.hp k) → ∀ o, hpSet h1 wr2 o = hpSet h1 wr o ∨ ∃ (T : TypeId) (e : Ty) (m : Nat) (xs : List e.den) (T' : TypeId) (e' : Ty) (xs' : List e'.den), h1 o = some (.arr T e m true xs) ∧ hpSet h1 wr o = some (.arr T' e' m true xs') ∧ hpSet h1 wr2 o = h1 o) :
    OpW P C o ⟨o.dst, retAV rs', rd2, wr2⟩ s := by
  intro s1 hop hhp a w hr hd K Q hK
  have hag : ∀ k ∈ wr.map (·.1), s1.hp k = s.hp k := fun k hk => hhp k (hrd k hk)
  refine call_wp ho hg hx hargs H hf B hall hop hag hr hd K Q ?_ ?_ ?_
  · intro r1 r2 a' w' e1 e2 hr'
    cases e1
    rw [hrs] at e2; cases e2
    exact hK a' w' (hr'.keep (hk s1.hp hag))
  · intro r1 e1; cases e1; exact ⟨rs', hrs⟩
  · intro t n w' e1; cases e1

/-- a call that panics -/
theorem wp_call_panic {o : Oper} {x : Operand} {xs : Array Operand} {at' : Array TypeId} {f : FuncId} {cap args : List AV} {t : TypeId} {n : Int} {σ σ' : Sg} {h0 H1 : Hp} {wr : List (Nat × AObj)} (ho : o.op = .call ⟨.value x, xs, at'⟩) (hg : GlobFree C)
    (hx : s.ev C x = .fn (.func f) [] cap) (hargs : rens σ (xs.toList.map (s.ev C) ++ cap) = some args) (H : Handed σ s.hp h0) (hf : FnH P C.Γ f args h0 (fun ae h1 => ae = .panic t n ∧ h1 = H1)) (B : Back σ σ' s.hp H1 wr)
    (hall : ∀ o' o φ, σ'.get o' = some (o, φ) → o ∈ wr.map (·.1)) {a : Act} {w : World} (hr : Rel C s a w) (hd : ∀ d, o.dst = some d → d < C.n) (K : Act → World → Prop) {Q : AEx → ASt → Prop} (hQ : Q (.panic t n) ⟨s.fr, hpSet s.hp wr⟩) :
    o.wpIn (fen C.rd) 0 P a w K (lft C Q) := by
  refine call_wp ho hg hx hargs H hf B hall (fun _ _ => rfl) (fun _ _ => rfl) hr hd K _ ?_ ?_ ?_
  · intro r1 r2 a' w' e1; cases e1
  · intro r1 e1; cases e1
  · intro t' n' w' e1 hr'
    cases e1
    exact ⟨.panic t n, _, rfl, hQ, hr'⟩

/-! ### a function's body -/

/-- what a function hands back, in the state in which it ends -/
inductive RetAll (P : Program) (s : ASt) : List ResultVar → List AV → Prop
  | nil : RetAll P s [] []
  | tmp {t : Nat} {a : AV} {l : List ResultVar} {l' : List AV} : s.fr t = a → a.plain = true → RetAll P s l l' → RetAll P s (.tmp t :: l) (a :: l')
  | cell {t o : Nat} {T : TypeId} {a : AV} {l : List ResultVar} {l' : List AV} : s.fr t = .op o [] 0 → s.hp o = some (.box a) → TyS P T a.asize a.isAgg → RetAll P s l l' → RetAll P s (.cell t T :: l) (a :: l')

def resOne (tmps : Array Value) : ResultVar → Sem Value
  | .tmp t => pure (tmps.getD t Go.undef)
  | .cell x t => do loadVar t (← asAddr (tmps.getD x Go.undef))

theorem results_run {im : Nat → Prop} {μ : Mu} {a : Act} {w : World} (hi : Inv C im μ s a w) : ∀ {l : List ResultVar} {l' : List AV}, RetAll P s l l' →
    ∃ vs : List Value, (l.mapM (resOne a.tmps)).run P w = .ok vs w ∧ RepFs w im μ s.hp l' vs
  | _, _, .nil => ⟨[], rfl, by simp [RepFs]⟩
  | _, _, .tmp (t := t) hz hpl h => by
    obtain ⟨vs, h1, h2⟩ := results_run hi h
    obtain ⟨g1, g2⟩ := (hz ▸ hi.fr t).toA hpl
    refine ⟨a.tmps.getD t Go.undef :: vs, ?_, ?_⟩
    · simp only [List.mapM_cons, resOne, Sem.run_bind, Sem.run_pure, Result.andThen_ok, h1]
    · simp only [RepFs]
      exact ⟨_, vs, rfl, g1, g2, h2⟩
  | _, _, .cell (t := t) (o := o) (T := T) (a := v) hfr ho ht h => by
    obtain ⟨vs, h1, h2⟩ := results_run hi h
    obtain ⟨b, u, h3, h4, h5⟩ := ptr_eq (hfr ▸ hi.fr t)
    obtain ⟨b', cells, T', he, hc, hr⟩ := hi.obj o _ ho
    obtain rfl : b' = b := by rw [h3] at he; cases he; rfl
    have hl := run_loadVar' ht w (cellsAt_block hc) (RepA.length _ _ hr) (fun hag => asize_one hag)
    obtain ⟨g1, g2⟩ := (hr.toV).toA (AV.plain_of_RepA hr)
    refine ⟨mkVal v.isAgg cells.toList :: vs, ?_, ?_⟩
    · simp only [List.mapM_cons, resOne, Sem.run_bind, h5, asAddr, Sem.run_pure, Result.andThen_ok, hl, h1]
    · simp only [RepFs]
      exact ⟨_, vs, rfl, g1, g2, h2⟩

def initFr : List AV → Nat → AV
  | [], _ => .undef
  | a :: _, 0 => a
  | _ :: l, x + 1 => initFr l x

theorem initFr_get : ∀ (l : List AV) (x : Nat), initFr l x = (l[x]?).getD .undef
  | [], x => by simp [initFr]
  | a :: l, 0 => rfl
  | a :: l, x + 1 => by simp only [initFr, List.getElem?_cons_succ]; exact initFr_get l x

def ctxH (W : World) (im : Nat → Prop) (μ : Mu) (h0 : Hp) (n : Nat) (Γ : Nat → Option AV) (nm : Bool := false) : Ctx := ⟨W, im, fun b => ∃ o, (μ o).blk = some b, n, [], Γ, h0, μ, none, nm⟩

theorem repFs_length {W : World} {im : Nat → Prop} {μ : Mu} {hp : Hp} : ∀ {l : List AV} {vs : List Value}, RepFs W im μ hp l vs → vs.length = l.length
  | [], vs, h => by simp only [RepFs] at h; subst h; rfl
  | a :: l, vs, h => by simp only [RepFs] at h; obtain ⟨v, us, rfl, _, _, h3⟩ := h; simp [repFs_length h3]

theorem init_inv {Γ : Nat → Option AV} {W : World} {im : Nat → Prop} {μ : Mu} {h0 : Hp} {vals : List Value} {args : List AV} {n : Nat} (him : ∀ b, im b → b < W.heap.size) (hgf : ∀ g v, Γ g = some v → v.free = true) (hglob : GlobOK Γ W im) (hI : HpInv W im μ h0)
    (hargs : RepFs W im μ h0 args vals) (hn : args.length ≤ n) (nm : Bool := false) : Inv (ctxH W im μ h0 n Γ nm) im μ ⟨initFr args, h0⟩ { tmps := vals.toArray ++ Array.replicate (n - vals.toArray.size) Go.undef, defers := [] } W := by
  have hlen := repFs_length hargs
  refine ⟨rfl, rfl, rfl, Nat.le_refl _, fun _ _ _ => rfl, fun _ h => h, fun _ h => .inl h, him, (fun o b h => ⟨(hI.sep o b h).1, (hI.sep o b h).2, .inl ⟨o, h⟩⟩), hI.inj, hI.dom, hI.obj, fun g v h => ?_, ?_, ?_, ⟨[], rfl, List.nodup_nil, fun _ => rfl, fun r hr => by cases hr⟩, fun o ob h => ⟨ob, h, ObEv.refl _ _⟩⟩
  · obtain ⟨h1, h2⟩ := (hglob g v h).toA (free_plain (hgf g v h))
    exact RepV.ofA (RepA.free _ _ (hgf g v h) h1) h2
  · intro x
    simp only
    rw [initFr_get]
    cases hx : args[x]? with
    | none => trivial
    | some av =>
      obtain ⟨v, h1, h2, h3⟩ := RepFs.get hargs hx
      have hlt : x < vals.length := (List.getElem?_eq_some_iff.1 h1).1
      have : (vals.toArray ++ Array.replicate (n - vals.toArray.size) Go.undef).getD x Go.undef = v := by
        rw [Array.getD_eq_getD_getElem?, Array.getElem?_append_left (by simpa using hlt)]
        simp [h1]
      rw [this]
      exact RepV.ofA h2 h3
  · simp [ctxH]; omega

theorem results_end {fn : Func} {tmps : Array Value} {w : World} {im : Nat → Prop} {μ : Mu} {hp : Hp} {rs : List AV} {vs : List Value} (h1 : (fn.results.toList.mapM (resOne tmps)).run P w = .ok vs w) (h2 : RepFs w im μ hp rs vs) :
    ∃ v, (results fn tmps).run P w = .ok v w ∧ EndRep w im μ hp (.ret rs) (.returned v) := by
  have hmapM : (fn.results.mapM (resOne tmps)).run P w = .ok vs.toArray w := by
    rw [Array.mapM_eq_mapM_toList, Sem.run_map, h1]; rfl
  have key : ∀ g : ResultVar → Sem Value, (∀ r, g r = resOne tmps r) → ((do let us ← fn.results.mapM g; pure (if h : us.size = 1 then us[0] else .tuple us)) : Sem Value).run P w = .ok (if h : vs.toArray.size = 1 then vs.toArray[0] else .tuple vs.toArray) w := by
    intro g hg
    obtain rfl : g = resOne tmps := funext hg
    simp only [Sem.run_bind, hmapM, Result.andThen_ok]
    rfl
  refine ⟨if h : vs.toArray.size = 1 then vs.toArray[0] else .tuple vs.toArray, ?_, ?_⟩
  · unfold results
    exact key _ (fun r => by cases r <;> rfl)
  · match rs, vs, h2 with
    | [], vs, h2' => 
      simp only [RepFs] at h2'
      subst h2'
      exact ⟨[], rfl, by simp [RepFs]⟩
    | [r], vs, h2' =>
      simp only [RepFs] at h2'
      obtain ⟨v, us, rfl, g1, g2, rfl⟩ := h2'
      exact ⟨v, rfl, g1, g2⟩
    | r :: r' :: rs, vs, h2' =>
      have h3 := h2'
      simp only [RepFs] at h3
      obtain ⟨v, us, rfl, g1, g2, v', us', rfl, _⟩ := h3
      exact ⟨v :: v' :: us', by simp, h2'⟩

/-- every mark's block is shut -/
structure Shut (rs : List Nat) (w w' : World) : Prop where
  os : w'.os = w.os
  tape : w'.tape = w.tape
  output : w'.output = w.output
  size : w'.heap.size = w.heap.size
  heap : ∀ b, b ∉ rs → w'.heap[b]? = w.heap[b]?

theorem leaves_marks {F : Fence} {n : Nat} {fn : Func} {tmps : Array Value} {R : Ending → World → Prop} {ds : List Deferred} {u : FrameMode} (hu : u ≠ .run) : ∀ (rs : List Nat) (w : World), rs.Nodup → (∀ r ∈ rs, w.heap[r]? = some (.deferred (some []))) →
    (∀ w', Shut rs w w' → LeavesInM F n P fn tmps R ds u w') → LeavesInM F n P fn tmps R (rs.map mark ++ ds) u w
  | [], w, _, _, h => h w ⟨rfl, rfl, rfl, rfl, fun _ _ => rfl⟩
  | r :: rs, w, hn, hr, h => by
    obtain ⟨hn1, hn2⟩ := List.nodup_cons.1 hn
    have h0 := hr r (by simp)
    refine ⟨hu, .inl ⟨r, _, rfl, run_takeDeferred h0, leaves_marks hu rs _ hn2 (fun r' hr' => ?_) (fun w' hs => h w' ?_)⟩⟩
    · rw [World.putObj_heap_other (by rintro rfl; exact hn1 hr')]
      exact hr r' (by simp [hr'])
    · refine ⟨hs.os, hs.tape, hs.output, by rw [hs.size]; simp, fun b hb => ?_⟩
      rw [hs.heap b (fun hm => hb (by simp [hm])), World.putObj_heap_other (by rintro rfl; exact hb (by simp))]

theorem Inv.unmark {C : Ctx} {im : Nat → Prop} {μ : Mu} {s : ASt} {a : Act} {w w' : World} {rs : List Nat} (hi : Inv C im μ s a w) (hm : Marks C im μ w rs) (hs : Shut rs w w') : Inv C im μ s { a with defers := C.defers } w' := by
  have hb : ∀ b, (∀ o, (μ o).blk ≠ some b) ∨ True → b ∉ rs → w'.heap[b]? = w.heap[b]? := fun b _ h => hs.heap b h
  have him : ∀ b, im b → b ∉ rs := fun b h hr => (hm.all b hr).2.2.1 h
  have hbl : ∀ o b, (μ o).blk = some b → b ∉ rs := fun o b h hr => (hm.all b hr).2.2.2.1 o h
  have ev : Ev w im μ s.hp w' im μ s.hp := ⟨fun _ h => h, fun b h => hs.heap b (him b h), fun o ob ho => ⟨ob, ho, ObEv.refl _ _⟩⟩
  exact ⟨hs.os.trans hi.os, hs.tape.trans hi.tape, hs.output.trans hi.output, by rw [hs.size]; exact hi.grow, fun b h1 h2 => (hs.heap b (fun hr => by have := (hm.all b hr).1; omega)).trans (hi.old b h1 h2), hi.imC, hi.imNew, fun b h => by rw [hs.size]; exact hi.imLt b h,
    fun o b h => by rw [hs.size]; exact hi.sep o b h, hi.inj, hi.dom, fun o ob ho => (hi.obj o ob ho).ev ev (fun b h => hs.heap b (hbl o b h)), fun g v hg => (hi.glob g v hg).ev ev, fun x => (hi.fr x).ev ev, hi.size, ⟨[], by simp, List.nodup_nil, fun _ => rfl, fun r hr => by cases hr⟩, hi.pin⟩

/-! ### a state under other names -/

/-- slot by slot: nothing is known, or what was known, renamed -/
def RenV (σ : Sg) (a a' : AV) : Prop := a' = .undef ∨ a.ren σ = some a' ∨ ∃ l l', a = .tup l ∧ a' = .tup l' ∧ rens σ l = some l'

theorem RenV.sound {w : World} {im : Nat → Prop} {μ μ' : Mu} {hp hp' : Hp} {σ : Sg} {a a' : AV} (h : SgOK σ μ μ' hp hp') (hr : RenV σ a a') {v : Value} (hv : RepV w im μ hp a v) : RepV w im μ' hp' a' v := by
  rcases hr with rfl | hr | ⟨l, l', rfl, rfl, hr⟩
  · trivial
  · obtain ⟨h1, h2⟩ := hv.toA (ren_plain hr)
    exact RepV.ofA (RepA.ren h _ _ _ hr h1) (h2.trans (AV.ren_agg _ _ hr))
  · obtain ⟨vs, e, h1⟩ := hv
    exact ⟨vs, e, RepFs.ren h _ _ _ hr h1⟩

theorem ObEv.obR {ob ob1 ob2 : AObj} {p q : Pl} (h2 : ObEv ob p ob1 q) (h4 : ObR .keep ob1 ob2) : ObEv ob p ob2 q := by
  cases ob1 with
  | box v =>
    cases ob2 with
    | arr _ _ _ _ _ => exact h4.elim
    | rc _ => exact h4.elim
    | box v2 =>
      cases ob with
      | box v0 => exact h2
      | rc _ => exact h2.elim
      | arr T e m z xs => obtain ⟨_, _, _, h5, _⟩ := h2; cases h5
  | rc v =>
    cases ob2 with
    | arr _ _ _ _ _ => exact h4.elim
    | box _ => exact h4.elim
    | rc v2 =>
      cases ob with
      | box v0 => exact h2.elim
      | rc _ => exact ⟨h2.1, (show v2.isMap = v.isMap from h4).trans h2.2⟩
      | arr T e m z xs => obtain ⟨_, _, _, h5, _⟩ := h2; cases h5
  | arr T e m z xs =>
    obtain ⟨m', h5, rfl⟩ := h4
    cases h5
    exact h2

theorem le_view {s s' : ASt} {σ : Sg} (hg : GlobFree C) (H : Handed σ s.hp s'.hp) (hfr : ∀ x, RenV σ (s.fr x) (s'.fr x)) (hpin : ∀ o ob, C.h0 o = some ob → σ.get o = some (o, .keep)) : Le C s s' := by
  rintro a w ⟨im, μ, hi⟩
  obtain ⟨hI, hS⟩ := H.inv (fun o b h => ⟨(hi.sep o b h).1, (hi.sep o b h).2.1⟩) hi.inj hi.obj
  have hinb : ∀ o' b, (muIn σ μ o').blk = some b → ∃ o, (μ o).blk = some b := fun o' b h => by
    unfold muIn at h
    cases hq : σ.inv o' with
    | none => rw [hq] at h; cases h
    | some o => rw [hq] at h; exact ⟨o, h⟩
  refine ⟨im, muIn σ μ, hi.os, hi.tape, hi.output, hi.grow, hi.old, hi.imC, hi.imNew, hi.imLt, ?_, hI.inj, hI.dom, hI.obj, ?_, fun x => (hfr x).sound hS (hi.fr x), hi.size, ?_, ?_⟩
  · intro o' b h
    obtain ⟨o, h1⟩ := hinb o' b h
    exact hi.sep o b h1
  · intro g v h
    obtain ⟨h1, h2⟩ := (hi.glob g v h).toA (free_plain (hg g v h))
    exact RepV.ofA (RepA.free _ _ (hg g v h) h1) h2
  · obtain ⟨rs, h1, h2⟩ := hi.defers
    refine ⟨rs, h1, h2.nodup, h2.none, fun r hr => ?_⟩
    obtain ⟨g1, g2, g3, g4, g5⟩ := h2.all r hr
    exact ⟨g1, g2, g3, fun o' ho' => by obtain ⟨o, h⟩ := hinb o' r ho'; exact g4 o h, g5⟩
  · intro o ob h
    have hσ := hpin o ob h
    obtain ⟨ob1, h1, h2⟩ := hi.pin o ob h
    obtain ⟨g1, g2⟩ := hS.ob o o .keep hσ
    obtain ⟨ob2, h3, h4⟩ := g2 ob1 h1
    refine ⟨ob2, h3, ?_⟩
    rw [g1]
    cases ob1 with
    | box v =>
      cases ob2 with
      | arr _ _ _ _ _ => exact h4.elim
      | rc _ => exact h4.elim
      | box v2 =>
        cases ob with
        | box v0 => exact h2
        | rc _ => exact h2.elim
        | arr T e m z xs => obtain ⟨_, _, _, h5, _⟩ := h2; cases h5
    | rc v =>
      cases ob2 with
      | arr _ _ _ _ _ => exact h4.elim
      | box _ => exact h4.elim
      | rc v2 =>
        cases ob with
        | box v0 => exact h2.elim
        | rc _ => exact ⟨h2.1, (show v2.isMap = v.isMap from h4).trans h2.2⟩
        | arr T e m z xs => obtain ⟨_, _, _, h5, _⟩ := h2; cases h5
    | arr T e m z xs =>
      obtain ⟨m', h5, rfl⟩ := h4
      cases h5
      exact h2

/-- an array of one's own turns no more -/
theorem le_freeze {o : Nat} {T : TypeId} {e : Ty} {m : Nat} {xs : List e.den} (h : s.hp o = some (.arr T e m false xs)) : Le C s ⟨s.fr, hpSet s.hp [(o, .arr T e m true xs)]⟩ := by
  rintro a w ⟨im, μ, hi⟩
  have hone := hpSet_one s.hp o (.arr T e m true xs)
  have hne : ∀ x, x ≠ o → hpSet s.hp [(o, .arr T e m true xs)] x = s.hp x := fun x hx => hpSet_one_ne s.hp _ hx
  rcases hi.obj o _ h with ⟨ad, hp', rfl⟩ | ⟨_, b, cap, cells, hp', hb, h1, h2, h3, h4⟩ | ⟨hz, _⟩
  · -- nothing in memory
    have hev : ∀ ob, s.hp o = some ob → ObEv ob (μ o) (.arr T e m true []) (μ o) := fun ob hob => by
      rw [h] at hob; cases hob; exact ⟨m, true, [], rfl, .inl ⟨rfl, rfl, .inl rfl⟩⟩
    have hw : WStep w w (μ o).blk := ⟨rfl, rfl, rfl, Nat.le_refl _, fun _ _ _ => rfl⟩
    have := hi.obj1 (dst := none) (av := .undef) (v := Go.undef) (pl' := μ o) hev hw (fun b hb => by rw [hp'] at hb; cases hb) (.inl ⟨ad, hp', rfl⟩) (fun d h => by cases h) trivial
    exact ⟨im, _, this⟩
  · have hblk : (μ o).blk = some b := by rw [hp']; rfl
    obtain ⟨s1, s2, s3⟩ := hi.sep o b hblk
    have ev : Ev w im μ s.hp w (fun k => im k ∨ k = b) (updMu μ o (.fz b cap)) (hpSet s.hp [(o, .arr T e m true xs)]) := by
      refine ⟨fun _ h => .inl h, fun _ _ => rfl, fun x ob hx => ?_⟩
      by_cases hxo : x = o
      · subst hxo
        rw [h] at hx; cases hx
        exact ⟨_, hone, m, true, xs, rfl, .inl ⟨rfl, rfl, .inr ⟨b, cap, hp', updMu_same _ _ _⟩⟩⟩
      · exact ⟨ob, by rw [hne x hxo]; exact hx, by rw [updMu_ne _ _ hxo]; exact ObEv.refl _ _⟩
    refine ⟨_, _, hi.step (dst := none) (av := .undef) (v := Go.undef) (a := a) ev rfl rfl rfl (Nat.le_refl _) (fun _ _ _ => rfl) ?_ ?_ ?_ ?_ ?_ ?_ (fun d h => by cases h) trivial⟩
    · rintro k (hk | rfl)
      · exact .inl hk
      · exact .inr (.inl ⟨o, hblk⟩)
    · rintro k (hk | rfl)
      · exact hi.imLt k hk
      · exact s2
    · intro x k hx
      by_cases hxo : x = o
      · subst hxo; rw [updMu_same] at hx; cases hx
      · rw [updMu_ne _ _ hxo] at hx
        obtain ⟨g1, g2, _⟩ := hi.sep x k hx
        refine ⟨?_, g2, .inl ⟨x, hx⟩⟩
        rintro (hk | rfl)
        · exact g1 hk
        · exact hxo (hi.inj _ _ _ hx hblk)
    · intro x y k hx hy
      by_cases hxo : x = o
      · subst hxo; rw [updMu_same] at hx; cases hx
      · by_cases hyo : y = o
        · subst hyo; rw [updMu_same] at hy; cases hy
        · rw [updMu_ne _ _ hxo] at hx; rw [updMu_ne _ _ hyo] at hy
          exact hi.inj _ _ k hx hy
    · intro x hx
      by_cases hxo : x = o
      · subst hxo; rw [hone] at hx; cases hx
      · rw [hne x hxo] at hx; rw [updMu_ne _ _ hxo]; exact hi.dom x hx
    · intro x ob hx
      by_cases hxo : x = o
      · subst hxo
        rw [hone] at hx; cases hx
        rw [updMu_same]
        refine .inr (.inr ⟨rfl, b, cap, _, rfl, .inr rfl, h1, h2, ?_, RepL.mono (RepD.mono ev.fim ev.fheap e) _ _ h4⟩)
        have := (cellsAt_block hb).sub 0 (xs.length * e.size)
        simpa using this
      · rw [hne x hxo] at hx
        rw [updMu_ne _ _ hxo]
        exact (hi.obj x ob hx).ev ev (fun _ _ => rfl)
  · cases hz

end
end Go.Vm
