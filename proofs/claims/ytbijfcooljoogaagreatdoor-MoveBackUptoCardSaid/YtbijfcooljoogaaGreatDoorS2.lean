/- Part W of the abstract machine: loops over functions: a round's contract, the call of yield, the loop's statement. -/
import Derived.Test.YtbijfcooljoogaaGreatDoorS1
import Derived.Laws.StructEq
import Derived.Lib.AppendZerosOnto
import Derived.MapKept
namespace Go.Vm

section
variable {P : Program} {C : Ctx} {s : ASt}

/-- one round of the loop whose record is object o -/
def RoundH (P : Program) (Γ : Nat → Option AV) (o : Nat) (args : List AV) (h0 : Hp) (R : Bool → Hp → Prop) : Prop :=
  ∀ (W : World) (im : Nat → Prop) (μ : Mu) (l : Nat) (vals : List Value), (∀ b, im b → b < W.heap.size) → GlobOK Γ W im → HpInv W im μ h0 → μ o = .at l → RepFs W im μ h0 args vals →
    ∃ r : Loop, W.heap[l]? = some (.loop r) ∧ vals.length = r.params.size ∧
      RoundIn Fence.wide 0 P l r.fn ((r.params.zip vals.toArray).foldl (fun tmps p => tmps.setIfInBounds p.1 p.2) r.tmps) r.assign r.body W
        fun e w' => ∃ c h1 im' μ', e = .returned (.bool c) ∧ R c h1 ∧ HpStep W im μ h0 w' im' μ' h1

theorem opW_yield {o : Oper} {x : Operand} {xs : Array Operand} {at' : Array TypeId} {q o' : Nat} {r0 : ARec} {args : List AV} {σ σ' : Sg} {h0 H1 : Hp} {wr : List (Nat × AObj)} {c : Bool} (ho : o.op = .call ⟨.value x, xs, at'⟩) (hg : GlobFree C)
    (hx : s.ev C x = .ref q) (hq : s.hp q = some (.rc r0)) (hm : r0.isMap = false) (hargs : rens σ (.ref q :: xs.toList.map (s.ev C)) = some (.ref o' :: args)) (H : Handed σ s.hp h0) (hf : RoundH P C.Γ o' args h0 (fun c' h1 => c' = c ∧ h1 = H1)) (B : Back σ σ' s.hp H1 wr)
    (hall : ∀ o' o φ, σ'.get o' = some (o, φ) → o ∈ wr.map (·.1)) : OpW P C o ⟨o.dst, .d .bool c, [], wr⟩ s := by
  intro s1 hop hhp a w hr hd K Q hK
  obtain ⟨im, μ, hi⟩ := hr
  have hhp' : ∀ k, k ∈ wr.map (·.1) → s1.hp k = s.hp k := fun k hk => hhp k (.inr hk)
  have hpas : ∀ o o' φ, σ.get o = some (o', φ) → s1.hp o = s.hp o := fun o o' φ h => by
    obtain ⟨φ', e, _⟩ := B.passed o o' φ h
    exact hhp' o (hall _ _ _ e)
  have H1' := H.of_agree hpas
  have B1 := B.of_agree hall hhp'
  -- the renaming
  obtain ⟨φ, hσq, hrest⟩ : ∃ φ, σ.get q = some (o', φ) ∧ rens σ (xs.toList.map (s.ev C)) = some args := by
    simp only [rens, AV.ren] at hargs
    cases hg' : σ.get q with
    | none => rw [hg'] at hargs; cases hargs
    | some of =>
      obtain ⟨oo, φ⟩ := of
      rw [hg'] at hargs
      simp only at hargs
      cases hr' : rens σ (xs.toList.map (s.ev C)) with
      | none => rw [hr'] at hargs; cases hargs
      | some l => rw [hr'] at hargs; cases hargs; exact ⟨φ, rfl, rfl⟩
  have hq1 : s1.hp q = some (.rc r0) := (hpas q o' φ hσq).trans hq
  have hx1 : s1.ev C x = .ref q := (hop x (by rw [ho]; simp [Op.operands, Call.operands])).trans hx
  obtain ⟨hrx, hag⟩ := hx1 ▸ hi.ev x
  simp only [RepA] at hrx
  obtain ⟨l, r1, hl, hr1, hcell⟩ := hrx
  rw [hq1] at hr1
  cases hr1
  have hcell2 : (a.eval x).cells.toList = [.func (.yield l) #[] #[]] := by rw [hcell]; simp only [ARec.val, hm]; rfl
  have hv : a.eval x = .func (.yield l) #[] #[] := by
    generalize a.eval x = v at hcell2 hag
    cases v <;> simp_all [Value.cells, vIsAgg, AV.isAgg]
  have hA : RepFs w im μ s1.hp (xs.toList.map (s.ev C)) (xs.toList.map a.eval) := by
    refine repFs_of_rens hrest (by simp) ?_
    intro i b u hb hu
    rw [List.getElem?_map, Option.map_eq_some_iff] at hb hu
    obtain ⟨y, hy, rfl⟩ := hb
    obtain ⟨y', hy', rfl⟩ := hu
    obtain rfl : y = y' := Option.some.inj (hy.symm.trans hy')
    have hm : y ∈ o.op.operands.toList := by
      rw [ho]
      simp only [Op.operands, Call.operands, Array.toList_append]
      exact List.mem_append.2 (.inr (List.mem_of_getElem? hy))
    rw [← hop y hm]; exact hi.ev y
  obtain ⟨hI, hS⟩ := H1'.inv (fun o b h => ⟨(hi.sep o b h).1, (hi.sep o b h).2.1⟩) hi.inj hi.obj
  have hAll' := RepFs.ren hS _ _ _ hrest hA
  have hlo : muIn σ μ o' = .at l := by rw [show muIn σ μ o' = μ q from by simp only [muIn, Sg.inv_of_get H1'.good hσq]]; exact hl
  obtain ⟨r, hrl, hlen, hround⟩ := hf w im (muIn σ μ) l _ hi.imLt (fun g v h => by
    obtain ⟨h1, h2⟩ := (hi.glob g v h).toA (free_plain (hg g v h))
    exact RepV.ofA (RepA.free _ _ (hg g v h) h1) h2) hI hlo hAll'
  have hrun : (execOp a.eval o).run P w = .ok (.round l r.fn ((r.params.zip (xs.toList.map a.eval).toArray).foldl (fun tmps p => tmps.setIfInBounds p.1 p.2) r.tmps) r.assign r.body) w := by
    have e : (xs.toList.map a.eval).toArray = xs.map a.eval := by apply Array.ext'; simp
    have hy := run_yield (P := P) (w := w) (args := xs.map a.eval) hrl (by simpa using hlen)
    rw [e]
    simp only [execOp, ho, resolve, hv, Deferred.ofValue, Sem.run_bind, Sem.run_pure, Result.andThen_ok, invoke, Array.empty_append]
    exact hy
  refine ⟨fun f _ => fen_fn _ f, ?_⟩
  rw [Oper.semAt_eq _ _ _ (by intro c hc; rw [ho] at hc; cases hc), hrun, Oper.uponIn_round]
  refine ⟨(fun h => nomatch h), ?_⟩
  have hci : RoundIn (fen C.rd) (0 - 1) P l r.fn _ r.assign r.body w _ := hround
  refine hci.mono ?_
  rintro e w' ⟨c', h1, im', μ', rfl, ⟨rfl, rfl⟩, hst⟩
  exact hK _ _ ⟨im', _, hi.back (dst := o.dst) H1' B1 hst hd (av := .d .bool c') (v := .bool c') (constAV_rep _ _ _ _ (.bool c'))⟩

/-! ### a round -/

def ctxR (W : World) (im : Nat → Prop) (μ : Mu) (h0 : Hp) (n : Nat) (Γ : Nat → Option AV) (l : Nat) : Ctx := ⟨W, im, fun b => ∃ o, (μ o).blk = some b, n, [], Γ, h0, μ, some l, true⟩

def setPs (f : Nat → AV) : List Tmp → List AV → Nat → AV
  | t :: ts, a :: as => setPs (putF f t a) ts as
  | _, _ => f

theorem setPs_rep {w : World} {im : Nat → Prop} {μ : Mu} {hp : Hp} : ∀ (ts : List Tmp) (as : List AV) (vals : List Value) (f : Nat → AV) (tmps : Array Value), RepFs w im μ hp as vals → ts.length = as.length → (∀ t ∈ ts, t < tmps.size) → (∀ x, RepV w im μ hp (f x) (tmps.getD x Go.undef)) →
    (∀ x, RepV w im μ hp (setPs f ts as x) (((ts.zip vals).foldl (fun tmps p => tmps.setIfInBounds p.1 p.2) tmps).getD x Go.undef)) ∧ ((ts.zip vals).foldl (fun tmps p => tmps.setIfInBounds p.1 p.2) tmps).size = tmps.size
  | [], [], vals, f, tmps, _, _, _, h => by simpa [setPs] using h
  | t :: ts, a :: as, vals, f, tmps, hr, hl, ht, h => by
    simp only [RepFs] at hr
    obtain ⟨v, us, rfl, h1, h2, h3⟩ := hr
    have hlt := ht t (by simp)
    obtain ⟨g1, g2⟩ := setPs_rep ts as us (putF f t a) (tmps.setIfInBounds t v) h3 (by simpa using hl) (fun t' ht' => by simpa using ht t' (by simp [ht'])) (fun x => by
      by_cases e : x = t
      · subst e
        rw [putF_same]
        have : (tmps.setIfInBounds x v).getD x Go.undef = v := by simp [Array.getD_eq_getD_getElem?, hlt]
        rw [this]; exact RepV.ofA h1 h2
      · rw [putF_ne _ _ e]
        have : (tmps.setIfInBounds t v).getD x Go.undef = tmps.getD x Go.undef := by simp [Array.getD_eq_getD_getElem?, Array.getElem?_setIfInBounds_ne (Ne.symm e)]
        rw [this]; exact h x)
    exact ⟨g1, by simpa using g2⟩
  | [], _ :: _, _, _, _, _, hl, _, _ => by simp at hl
  | _ :: _, [], _, _, _, _, hl, _, _ => by simp at hl

def jmpOf : AEx → Option (Option Jmp)
  | .normal => some none
  | .ret => some (some .ret)
  | .exit id => some (some (.exit id))
  | .panic _ _ => none
def staOf : Option Jmp → LSta
  | none => .ready
  | some j => .done j

/-- at a round's end -/
def RPost (h0 : Hp) (o : Nat) (R : Bool → Hp → Prop) : AEx → ASt → Prop := fun ex s2 =>
  ∃ j lc2 fr2 σ h1, jmpOf ex = some j ∧ s2.hp o = some (.rc (.loop lc2 fr2 .busy)) ∧ Handed σ (hpSet s2.hp [(o, .rc (.loop lc2 fr2 (staOf j)))]) h1 ∧ (∀ o ob, h0 o = some ob → σ.get o = some (o, .keep)) ∧ R j.isNone h1

/-- the record's state turns -/
theorem Inv.loopTo {im : Nat → Prop} {μ : Mu} {a : Act} {w : World} (hi : Inv C im μ s a w) {o : Nat} {lc : LoopC} {fr : List (Nat × AV)} {st : LSta} (ho : s.hp o = some (.rc (.loop lc fr st))) :
    ∃ l r, μ o = .at l ∧ w.heap[l]? = some (.loop r) ∧ st.ok r ∧ r.params = lc.ps ∧ r.assign = lc.assign ∧ r.body = lc.body ∧ r.tmps.size = lc.n ∧ (∀ p ∈ fr, RepV w im μ s.hp p.2 (r.tmps.getD p.1 Go.undef)) ∧
      ∀ (r' : Loop) (st' : LSta), r'.params = r.params → r'.assign = r.assign → r'.body = r.body → r'.tmps = r.tmps → st'.ok r' → Inv C im μ ⟨s.fr, hpSet s.hp [(o, .rc (.loop lc fr st'))]⟩ a (w.putObj l (.loop r')) := by
  obtain ⟨l, x, hl, hx, r, rfl, h1, h2, h3, h4, h5, h6⟩ := hi.obj o _ ho
  refine ⟨l, r, hl, hx, h6, h1, h2, h3, h4, h5, fun r' st' e1 e2 e3 e4 e5 => ?_⟩
  have hlt : l < w.heap.size := (Array.getElem?_eq_some_iff.1 hx).1
  have hev : ∀ ob, s.hp o = some ob → ObEv ob (μ o) (.rc (.loop lc fr st')) (μ o) := fun ob hob => by
    rw [ho] at hob; cases hob; exact ⟨rfl, rfl⟩
  have hw : WStep w (w.putObj l (.loop r')) (μ o).blk := ⟨rfl, rfl, rfl, by simp, fun b _ hb => World.putObj_heap_other (by rintro rfl; exact hb (by rw [hl]; rfl))⟩
  have ev := hi.evObj hev hw
  have hmu : updMu μ o (μ o) = μ := by funext y; unfold updMu; cases hb : Nat.beq y o with | true => rw [Nat.eq_of_beq_eq_true hb]; rfl | false => rfl
  have := hi.obj1 (dst := none) (av := .undef) (v := Go.undef) hev hw (fun b hb => ⟨by simpa using (hi.sep o b hb).2.1, .inl hb⟩) (by
    rw [hl]
    exact ⟨l, _, rfl, World.putObj_heap_same hlt, r', rfl, e1.trans h1, e2.trans h2, e3.trans h3, by rw [e4]; exact h4, fun p hp => by rw [e4]; have := (h5 p hp).ev ev; rw [hl] at this; exact this, e5⟩) (fun d h => by cases h) trivial
  rw [hmu] at this
  exact this

theorem roundH_of_aw {Γ : Nat → Option AV} {o : Nat} {lc : LoopC} {fr : List (Nat × AV)} {args : List AV} {h0 : Hp} {R : Bool → Hp → Prop} {f : Nat → AV} (hgf : ∀ g v, Γ g = some v → v.free = true) (ho : h0 o = some (.rc (.loop lc fr .ready)))
    (hf : ∀ x, f x = .undef ∨ ∃ a, (x, a) ∈ fr ∧ f x = a) (hlen : lc.ps.size = args.length) (hps : ∀ t ∈ lc.ps.toList, t < lc.n)
    (h : ∀ W im μ l, AW P (ctxR W im μ h0 lc.n Γ l) lc.assign (fun ex s1 => ex = .normal ∧ ∃ lc1 fr1, s1.hp o = some (.rc (.loop lc1 fr1 .ready)) ∧
      AW P (ctxR W im μ h0 lc.n Γ l) lc.body (RPost h0 o R) ⟨s1.fr, hpSet s1.hp [(o, .rc (.loop lc1 fr1 .busy))]⟩) ⟨setPs f lc.ps.toList args, h0⟩) : RoundH P Γ o args h0 R := by
  intro W im μ l vals him hglob hI hl hargs
  obtain ⟨l', x, hl', hx, r, rfl, h1, h2, h3, h4, h5, h6⟩ := hI.obj o _ ho
  obtain rfl : l' = l := by rw [hl] at hl'; cases hl'; rfl
  have hvl := repFs_length hargs
  refine ⟨r, hx, by rw [hvl, h1]; exact hlen.symm, ?_⟩
  have hfold : (r.params.zip vals.toArray).foldl (fun tmps p => tmps.setIfInBounds p.1 p.2) r.tmps = (lc.ps.toList.zip vals).foldl (fun tmps p => tmps.setIfInBounds p.1 p.2) r.tmps := by
    rw [h1, ← Array.foldl_toList, Array.toList_zip]
  rw [hfold]
  have hfr : ∀ x, RepV W im μ h0 (f x) (r.tmps.getD x Go.undef) := fun x => by
    rcases hf x with h | ⟨a, ha, h⟩
    · rw [h]; trivial
    · rw [h]; exact h5 _ ha
  obtain ⟨hrep, hsz⟩ := setPs_rep lc.ps.toList args vals f r.tmps hargs (by simpa using hlen) (fun t ht => by rw [h4]; exact hps t ht) hfr
  have hinv : Inv (ctxR W im μ h0 lc.n Γ l') im μ ⟨setPs f lc.ps.toList args, h0⟩ { tmps := (lc.ps.toList.zip vals).foldl (fun tmps p => tmps.setIfInBounds p.1 p.2) r.tmps, defers := [] } W := by
    refine ⟨rfl, rfl, rfl, Nat.le_refl _, fun _ _ _ => rfl, fun _ h => h, fun _ h => .inl h, him, (fun o b h => ⟨(hI.sep o b h).1, (hI.sep o b h).2, .inl ⟨o, h⟩⟩), hI.inj, hI.dom, hI.obj, fun g v h => ?_, hrep, ?_, ⟨[], rfl, List.nodup_nil, fun _ => rfl, fun r hr => by cases hr⟩, fun o ob h => ⟨ob, h, ObEv.refl _ _⟩⟩
    · obtain ⟨h1, h2⟩ := (hglob g v h).toA (free_plain (hgf g v h))
      exact RepV.ofA (RepA.free _ _ (hgf g v h) h1) h2
    · show _ = lc.n
      rw [hsz]; exact h4
  rw [h2, h3]
  refine roundIn_of_wpIn (F := Fence.wide) trivial ?_
  refine wpIn_mono (h W im μ l' _ _ ⟨im, μ, hinv⟩) ?_
  rintro e a1 w1 ⟨ae, s1, rfl, ⟨rfl, lc1, fr1, ho1, hbody⟩, im1, μ1, hi1⟩
  have hl1 : μ1 o = .at l' := by
    obtain ⟨ob', g1, g2⟩ := hi1.pin o _ ho
    rw [ho1] at g1; cases g1
    exact g2.1.trans hl
  obtain ⟨l1, r1, hm1, hx1, hst1, _, _, _, _, _, hto⟩ := hi1.loopTo ho1
  obtain rfl : l1 = l' := by rw [hl1] at hm1; cases hm1; rfl
  refine ⟨_, run_beginRound hx1 hst1.1, ?_⟩
  have hi2 := hto { r1 with state := .busy } .busy rfl rfl rfl rfl rfl
  refine wpIn_mono (hbody _ _ ⟨im1, μ1, hi2⟩) ?_
  rintro e a3 w3 ⟨ae, s3, rfl, ⟨j, lc2, fr2, σ, h1', hj, ho3, hH, hpin, hR⟩, im3, μ3, hi3⟩
  have hl3 : μ3 o = .at l1 := by
    obtain ⟨ob', g1, g2⟩ := hi3.pin o _ ho
    rw [ho3] at g1; cases g1
    exact g2.1.trans hl
  obtain ⟨l3, r3, hm3, hx3, hst3, _, _, _, _, _, hto3⟩ := hi3.loopTo ho3
  obtain rfl : l3 = l1 := by rw [hl3] at hm3; cases hm3; rfl
  have hfin : ∀ (jc : Option Code), jc = j.map Jmp.code → ∃ v w', (Instr.endRound l3 jc).run P w3 = .ok v w' ∧ ∃ c h1 im' μ', Ending.returned v = .returned (.bool c) ∧ R c h1 ∧ HpStep W im μ h0 w' im' μ' h1 := by
    rintro jc rfl
    refine ⟨_, _, run_endRound _ hx3, j.isNone, h1', im3, muIn σ μ3, by cases j <;> rfl, hR, ?_⟩
    have hi4 := hto3 { r3 with state := if (j.map Jmp.code).isNone then .ready else .done, pending := j.map Jmp.code } (staOf j) rfl rfl rfl rfl (by cases j with | none => exact ⟨rfl, rfl⟩ | some j => exact ⟨rfl, rfl⟩)
    have hst : ∀ (hpin : ∀ o ob, h0 o = some ob → σ.get o = some (o, .keep)), HpStep W im μ h0 (w3.putObj l3 (.loop { r3 with state := if (j.map Jmp.code).isNone then .ready else .done, pending := j.map Jmp.code })) im3 (muIn σ μ3) h1' := fun hpin => by
      obtain ⟨hI', hS'⟩ := hH.inv (fun o b h => ⟨(hi4.sep o b h).1, (hi4.sep o b h).2.1⟩) hi4.inj hi4.obj
      refine ⟨hi4.os, hi4.tape, hi4.output, hi4.grow, fun b hb hno => hi4.old b hb (fun ⟨o, ho⟩ => hno o ho), hi4.imC, hi4.imNew, hi4.imLt, fun o b h => ?_, fun o ob hob => ?_, hI'⟩
      · unfold muIn at h
        cases hq : σ.inv o with
        | none => rw [hq] at h; cases h
        | some o1 => rw [hq] at h; exact (hi4.sep o1 b h).2.2
      · have hσ := hpin o ob hob
        obtain ⟨ob1, k1, k2⟩ := hi4.pin o ob hob
        obtain ⟨g1, g2⟩ := hS'.ob o o .keep hσ
        obtain ⟨ob2, k3, k4⟩ := g2 ob1 k1
        refine ⟨ob2, k3, ?_⟩
        rw [g1]
        exact ObEv.obR k2 k4
    exact hst hpin
  cases ae with
  | normal => cases hj; exact hfin none rfl
  | ret => cases hj; exact hfin (some .ret) rfl
  | exit id => cases hj; exact hfin (some (.exit id)) rfl
  | panic t n => cases hj

/-! ### the loop's statement -/

def LoopEnd (Q : AEx → ASt → Prop) (S : ASt) : LSta → Prop
  | .ready => Q .normal S
  | .done .ret => Q .ret S
  | .done (.exit id) => Q (.exit id) S
  | _ => False

theorem heap_two (w : World) (x y : Obj) : ((w.alloc x).alloc y).heap[w.heap.size]? = some x ∧ ((w.alloc x).alloc y).heap[w.heap.size + 1]? = some y ∧ ((w.alloc x).alloc y).heap.size = w.heap.size + 2 ∧ ∀ b, b < w.heap.size → ((w.alloc x).alloc y).heap[b]? = w.heap[b]? := by
  refine ⟨?_, ?_, by simp, fun b hb => ?_⟩
  · rw [heap_alloc_old _ _ (by simp)]; exact World.alloc_heap_new w x
  · have := World.alloc_heap_new (w.alloc x) y
    rw [show (w.alloc x).heap.size = w.heap.size + 1 by simp] at this
    exact this
  · rw [heap_alloc_old _ _ (by simp; omega), heap_alloc_old _ _ hb]

theorem aw_rangeFunc {Q : AEx → ASt → Prop} {fop : Operand} {ps : Array Tmp} {assign body : Code} {f : FuncId} {cap args : List AV} {fr : List (Nat × AV)} {o d : Nat} {σ σ' : Sg} {hh H1 : Hp} {wr : List (Nat × AObj)} {AE : AEnd} (hg : GlobFree C) (hnm : C.nm = false) (hrd : C.rd = none)
    (hx : s.ev C fop = .fn (.func f) [] cap) (h0 : s.hp o = none) (hfr : ∀ p ∈ fr, p.2 = s.fr p.1) {ob : AObj} (hob : ob = .rc (.loop ⟨d, ps, assign, body, C.n⟩ fr .ready))
    (hargs : rens σ (.ref o :: cap) = some args) (H : Handed σ (hpSet s.hp [(o, ob)]) hh) (hf : FnH P C.Γ f args hh (fun ae h1 => ae = AE ∧ h1 = H1)) (B : Back σ σ' (hpSet s.hp [(o, ob)]) H1 wr)
    (hret : ∀ rs, AE = .ret rs → ∃ lc1 fr1 st, hpSet (hpSet s.hp [(o, ob)]) wr o = some (.rc (.loop lc1 fr1 st)) ∧ LoopEnd Q ⟨s.fr, hpSet (hpSet (hpSet s.hp [(o, ob)]) wr) [(o, .rc (.loop lc1 fr1 .over))]⟩ st)
    (hpan : ∀ t n, AE = .panic t n → Q (.panic t n) ⟨s.fr, hpSet (hpSet s.hp [(o, ob)]) wr⟩) : AW P C (.rangeFunc fop ps assign body) Q s := by
  subst hob
  rintro a w ⟨im, μ, hi⟩
  obtain ⟨hr, hag⟩ := hx ▸ hi.ev fop
  simp only [RepA, RepFs] at hr
  obtain ⟨vs, us, hcell, hvs, hus⟩ := hr
  subst hvs
  have hv : a.eval fop = .func (.func f) #[] us.toArray := by
    generalize a.eval fop = v at hcell hag
    cases v <;> simp_all [Value.cells, vIsAgg, AV.isAgg]
  refine wpIn_rangeFunc fun fn _ => ?_
  obtain ⟨k1, k2, k3, k4⟩ := heap_two w (.deferred (some [])) (.loop { state := .ready, pending := none, fn, tmps := a.tmps, params := ps, assign, body, defers := w.heap.size })
  have henter := run_enterLoop_outer (P := P) (w := w) fn a.tmps ps assign body
  generalize hw2 : (w.alloc (.deferred (some []))).alloc (.loop { state := .ready, pending := none, fn, tmps := a.tmps, params := ps, assign, body, defers := w.heap.size }) = w2 at k1 k2 k3 k4 henter
  have hw : WStep w w2 (μ o).blk := by
    rw [← hw2]
    exact ⟨rfl, rfl, rfl, by simp; omega, fun b hb _ => by rw [hw2]; exact k4 b hb⟩
  have hmo : (μ o).blk = none := by rw [hi.dom o h0]; rfl
  have hev : ∀ ob, s.hp o = some ob → ObEv ob (μ o) (.rc (.loop ⟨d, ps, assign, body, C.n⟩ fr .ready)) (.at (w.heap.size + 1)) := fun ob h => by rw [h0] at h; cases h
  have ev := hi.evObj hev hw
  have hi1 := hi.obj1 (dst := none) (av := .undef) (v := Go.undef) hev hw (fun b hb => by cases hb; exact ⟨by omega, .inr (by omega)⟩)
    ⟨_, _, rfl, k2, _, rfl, rfl, rfl, rfl, hi.size, fun p hp => by rw [hfr p hp]; exact (hi.fr p.1).ev ev, rfl, rfl⟩ (fun d h => by cases h) trivial
  have hi2 : Inv C im (updMu μ o (.at (w.heap.size + 1))) ⟨s.fr, hpSet s.hp [(o, .rc (.loop ⟨d, ps, assign, body, C.n⟩ fr .ready))]⟩ { a with defers := [mark w.heap.size] ++ a.defers } w2 := by
    refine ⟨hi1.os, hi1.tape, hi1.output, hi1.grow, hi1.old, hi1.imC, hi1.imNew, hi1.imLt, hi1.sep, hi1.inj, hi1.dom, hi1.obj, hi1.glob, hi1.fr, hi1.size, ?_, hi1.pin⟩
    obtain ⟨rs, h1, h2⟩ := hi.defers
    refine ⟨w.heap.size :: rs, by rw [h1]; rfl, List.nodup_cons.2 ⟨fun hm => by have := (h2.all _ hm).2.1; omega, h2.nodup⟩, (fun h => by rw [hnm] at h; cases h), fun r hr => ?_⟩
    rcases List.mem_cons.1 hr with rfl | hr
    · refine ⟨hi.grow, by omega, fun h => by have := hi.imLt _ h; omega, fun x hx => ?_, k1⟩
      by_cases e : x = o
      · subst e; rw [updMu_same] at hx; simp [Pl.blk] at hx
      · rw [updMu_ne _ _ e] at hx; have := (hi.sep x _ hx).2.1; omega
    · obtain ⟨g1, g2, g3, g4, g5⟩ := h2.all r hr
      refine ⟨g1, by omega, g3, fun x hx => ?_, (k4 r g2).trans g5⟩
      by_cases e : x = o
      · subst e
        rw [updMu_same] at hx
        have hx2 : w.heap.size + 1 = r := by simpa [Pl.blk] using hx
        omega
      · rw [updMu_ne _ _ e] at hx; exact g4 x hx
  generalize hmu : updMu μ o (.at (w.heap.size + 1)) = μ2 at hi2 ev
  have hmo2 : μ2 o = .at (w.heap.size + 1) := by rw [← hmu, updMu_same]
  have hA : RepFs w2 im μ2 (hpSet s.hp [(o, .rc (.loop ⟨d, ps, assign, body, C.n⟩ fr .ready))]) (.ref o :: cap) (.func (.yield (w.heap.size + 1)) #[] #[] :: us) := by
    simp only [RepFs, RepA]
    exact ⟨_, _, rfl, ⟨_, _, hmo2, hpSet_one _ _ _, rfl⟩, rfl, RepFs.ev ev _ _ hus⟩
  obtain ⟨hI, hS⟩ := H.inv (fun o b h => ⟨(hi2.sep o b h).1, (hi2.sep o b h).2.1⟩) hi2.inj hi2.obj
  have hAll' := RepFs.ren hS _ _ _ hargs hA
  have hcalls := hf.2 w2 im (muIn σ μ2) _ hi2.imLt (fun g v h => by
    obtain ⟨h1, h2⟩ := (hi2.glob g v h).toA (free_plain (hg g v h))
    exact RepV.ofA (RepA.free _ _ (hg g v h) h1) h2) hI hAll'
  refine ⟨w.heap.size + 1, [mark w.heap.size], w2, ⟨.fn (.func f) us.toArray, #[.func (.yield (w.heap.size + 1)) #[] #[]]⟩, w2, f, (.func (.yield (w.heap.size + 1)) #[] #[] :: us).toArray, w2, ?_, ?_, fun f' _ => fen_fn _ f', ?_, (fun h => nomatch h), ?_⟩
  · show (Instr.enterLoop fn a.tmps ps assign body C.rd).run P w = _
    rw [hrd]; exact henter
  · simp only [resolve, hv, Deferred.ofValue, Sem.run_pure]
    simp [Act.eval]
  · have := hf.1 (#[.func (.yield (w.heap.size + 1)) #[] #[]] ++ us.toArray) w2
    simp only [invoke]
    rw [this]
    simp
  · have hci : CallsIn (fen C.rd) (0 - 1) P f (.func (.yield (w.heap.size + 1)) #[] #[] :: us).toArray w2 _ := (callsIn_wide (n := 0 - 1)).2 hcalls
    refine hci.mono ?_
    rintro e w' ⟨ae, h1, im', μ', ⟨rfl, rfl⟩, hst, he⟩
    have hback := hi2.back (dst := none) H B hst (fun d h => by cases h) (av := .undef) (v := Go.undef) trivial
    -- the record's block
    obtain ⟨o', φ, hσo⟩ : ∃ o' φ, σ.get o = some (o', φ) := by
      simp only [rens, AV.ren] at hargs
      cases hg' : σ.get o with
      | none => rw [hg'] at hargs; cases hargs
      | some of => exact ⟨of.1, of.2, rfl⟩
    obtain ⟨φ', hσ'o, _⟩ := B.passed o o' φ hσo
    have hmo3 : muOut σ' μ' μ2 o = .at (w.heap.size + 1) := by
      rw [show muOut σ' μ' μ2 o = μ' o' from by simp only [muOut, Sg.inv_of_get B.good hσ'o]]
      obtain ⟨ob1, ob1', g1, g2, g3⟩ := H.fwd o o' φ hσo
      rw [hpSet_one] at g1
      cases g1
      obtain ⟨ob2, g4, g5⟩ := hst.fob o' _ g3
      have hmi : muIn σ μ2 o' = μ2 o := by simp only [muIn, Sg.inv_of_get H.good hσo]
      have hk := AObj.ren_obR g2
      cases ob1' with
      | box _ => exact hk.elim
      | arr _ _ _ _ _ => exact hk.elim
      | rc r1 =>
        cases ob2 with
        | box _ => exact g5.elim
        | arr _ _ _ _ _ => exact g5.elim
        | rc r2 => rw [g5.1, hmi, hmo2]
    cases ae with
    | ret rs =>
      obtain ⟨v, rfl, _⟩ := endRep_ret he
      obtain ⟨lc1, fr1, st, hol, hend⟩ := hret rs rfl
      obtain ⟨l, r, hl, hxl, hok, _, _, _, _, _, hto⟩ := hback.loopTo (o := o) hol
      obtain rfl : l = w.heap.size + 1 := by rw [hmo3] at hl; cases hl; rfl
      have hi4 := hto { r with state := .exhausted } .over rfl rfl rfl rfl trivial
      have hrel : Rel C ⟨s.fr, hpSet (hpSet (hpSet s.hp [(o, .rc (.loop ⟨d, ps, assign, body, C.n⟩ fr .ready))]) wr) [(o, .rc (.loop lc1 fr1 .over))]⟩ { a with defers := [mark w.heap.size] ++ a.defers } (w'.putObj (w.heap.size + 1) (.loop { r with state := .exhausted })) := ⟨im', _, hi4⟩
      show ∃ jump w₄, _ ∧ _
      cases st with
      | ready =>
        exact ⟨none, _, (run_endLoop hxl (by rw [hok.1]; simp)).trans (congrArg (fun p => Result.ok p _) hok.2), ⟨.normal, _, rfl, hend, hrel⟩⟩
      | busy => exact hend.elim
      | over => exact hend.elim
      | done j =>
        refine ⟨some j.code, _, (run_endLoop hxl (by rw [hok.1]; simp)).trans (congrArg (fun p => Result.ok p _) hok.2), ?_⟩
        cases j with
        | ret => exact wpIn_ret ⟨.ret, _, rfl, hend, hrel⟩
        | exit id => exact wpIn_exit ⟨.exit id, _, rfl, hend, hrel⟩
    | panic t n =>
      have he' : e = .panicked [{ v := .iface t (.int .i64 n), recovered := false }] := he
      subst he'
      exact ⟨.panic t n, _, rfl, hpan t n rfl, ⟨im', _, hback⟩⟩

end
end Go.Vm
namespace Go.Vm

/-! ### the pure side -/

inductive Stp (S E : Type) where
  | next (s : S)
  | done (e : E)

def loopM {S E : Type} (body : S → Option (Stp S E)) : Nat → S → Option E
  | 0, _ => none
  | n + 1, s =>
    match body s with
    | none => none
    | some (.next s') => loopM body n s'
    | some (.done e) => some e

/-- rounds enough -/
def fu : Nat := 18446744073709551616

def idx {α : Type} (xs : List α) (i : Int) : Option α := if 0 ≤ i then xs[i.toNat]? else none

def cut {α : Type} (xs : List α) (l h : Int) : Option (List α) := if 0 ≤ l ∧ l ≤ h ∧ h ≤ xs.length then some ((xs.take h.toNat).drop l.toNat) else none

def app {α : Type} (xs ys : List α) : Option (List α) := if xs.length + ys.length ≤ lim then some (xs ++ ys) else none

def quo (k : IntKind) (a b : Int) : Option Int := if b = 0 then none else some (k.wrap (a.tdiv b))

def rem (a b : Int) : Option Int := if b = 0 then none else some (a.tmod b)

def strcat (a b : List UInt8) : Option (List UInt8) := if a.length + b.length < 4611686018427387904 then some (a ++ b) else none

def mk {α : Type} (n : Int) (z : α) : Option (List α) := if 0 ≤ n ∧ n ≤ lim then some (List.replicate n.toNat z) else none

theorem bind_some {α β : Type} {m : Option α} {f : α → Option β} {r : β} (h : m.bind f = some r) : ∃ x, m = some x ∧ f x = some r := by
  cases m with
  | none => cases h
  | some x => exact ⟨x, rfl, h⟩

theorem idx_some {α : Type} {xs : List α} {i : Int} {x : α} (h : idx xs i = some x) : 0 ≤ i ∧ xs[i.toNat]? = some x := by
  unfold idx at h
  by_cases h0 : 0 ≤ i
  · rw [if_pos h0] at h; exact ⟨h0, h⟩
  · rw [if_neg h0] at h; cases h

theorem app_some {α : Type} {xs ys zs : List α} (h : app xs ys = some zs) : xs.length + ys.length ≤ lim ∧ xs ++ ys = zs := by
  unfold app at h
  by_cases h0 : xs.length + ys.length ≤ lim
  · rw [if_pos h0] at h; exact ⟨h0, Option.some.inj h⟩
  · rw [if_neg h0] at h; cases h

theorem quo_some {k : IntKind} {a b z : Int} (h : quo k a b = some z) : b ≠ 0 ∧ k.wrap (a.tdiv b) = z := by
  unfold quo at h
  by_cases h0 : b = 0
  · rw [if_pos h0] at h; cases h
  · rw [if_neg h0] at h; exact ⟨h0, Option.some.inj h⟩

theorem rem_some {a b z : Int} (h : rem a b = some z) : b ≠ 0 ∧ a.tmod b = z := by
  unfold rem at h
  by_cases h0 : b = 0
  · rw [if_pos h0] at h; cases h
  · rw [if_neg h0] at h; exact ⟨h0, Option.some.inj h⟩

theorem cut_some {α : Type} {xs zs : List α} {l h : Int} (hc : cut xs l h = some zs) : 0 ≤ l ∧ l.toNat ≤ h.toNat ∧ 0 ≤ h ∧ h.toNat ≤ xs.length ∧ (xs.take h.toNat).drop l.toNat = zs := by
  unfold cut at hc
  by_cases h0 : 0 ≤ l ∧ l ≤ h ∧ h ≤ xs.length
  · rw [if_pos h0] at hc
    exact ⟨h0.1, by omega, by omega, by omega, Option.some.inj hc⟩
  · rw [if_neg h0] at hc; cases hc

theorem strcat_some {a b z : List UInt8} (h : strcat a b = some z) : a.length + b.length < 2 ^ 62 ∧ a ++ b = z := by
  unfold strcat at h
  by_cases h0 : a.length + b.length < 4611686018427387904
  · rw [if_pos h0] at h; exact ⟨by omega, Option.some.inj h⟩
  · rw [if_neg h0] at h; cases h

theorem mk_some {α : Type} {n : Int} {z : α} {l : List α} (h : mk n z = some l) : 0 ≤ n ∧ n ≤ lim ∧ List.replicate n.toNat z = l := by
  unfold mk at h
  by_cases h0 : 0 ≤ n ∧ n ≤ lim
  · rw [if_pos h0] at h; exact ⟨h0.1, h0.2, Option.some.inj h⟩
  · rw [if_neg h0] at h; cases h

def sidx (l : List UInt8) (n : Int) : Option Int := if 0 ≤ n then (l[n.toNat]?).map (fun z => (z.toNat : Int)) else none

theorem sidx_some {l : List UInt8} {n z : Int} (h : sidx l n = some z) : 0 ≤ n ∧ ∃ b, l[n.toNat]? = some b ∧ (b.toNat : Int) = z := by
  unfold sidx at h
  by_cases h0 : 0 ≤ n
  · rw [if_pos h0] at h
    obtain ⟨b, hb, rfl⟩ := Option.map_eq_some_iff.1 h
    exact ⟨h0, b, hb, rfl⟩
  · rw [if_neg h0] at h; cases h

def shl (k : IntKind) (a b : Int) : Option Int := if 0 ≤ b then some (k.wrap (a * 2 ^ (min b.toNat k.bits))) else none

def shr (k : IntKind) (a b : Int) : Option Int := if 0 ≤ b then some (a.fdiv (2 ^ (min b.toNat k.bits))) else none

def NoIf (P : Program) (t : TypeId) : Prop := ∃ d, P.underlying t = some d ∧ (match d with | .interface _ => false | _ => true) = true


section
variable {P : Program} {C : Ctx} {s : ASt}
variable {dst : Option Tmp} {ty : TypeId} {pos : String} {aft : Array Edge} {gd : Option (Nat × Bool)}

theorem OpOK.cast {o : Oper} {d : Option Tmp} {a b : AV} {rd : List Nat} {wr : List (Nat × AObj)} (h : OpOK P C o ⟨d, a, rd, wr⟩ s) (e : a = b) : OpOK P C o ⟨d, b, rd, wr⟩ s := e ▸ h

/-- the world has grown, nothing else -/
theorem Inv.grown {im : Nat → Prop} {μ : Mu} {a : Act} {w w' : World} (hi : Inv C im μ s a w) (h1 : w'.os = w.os) (h2 : w'.tape = w.tape) (h3 : w'.output = w.output) (h4 : w.heap.size ≤ w'.heap.size) (h5 : ∀ b, b < w.heap.size → w'.heap[b]? = w.heap[b]?)
    {d : Option Nat} (hd : ∀ x, d = some x → x < C.n) {av : AV} {v : Value} (hv : RepV w' im μ s.hp av v) : Inv C im μ ⟨(s.put d av).fr, s.hp⟩ (a.put d v) w' := by
  have ev : Ev w im μ s.hp w' im μ s.hp := ⟨fun _ h => h, fun b h => h5 b (hi.imLt b h), fun o ob ho => ⟨ob, ho, ObEv.refl _ _⟩⟩
  exact hi.step ev h1 h2 h3 h4 (fun b h _ => h5 b h) (fun b h => .inl h) (fun b h => Nat.lt_of_lt_of_le (hi.imLt b h) h4) (fun o b h => ⟨(hi.sep o b h).1, Nat.lt_of_lt_of_le (hi.sep o b h).2.1 h4, .inl ⟨o, h⟩⟩) hi.inj hi.dom
    (fun o ob ho => (hi.obj o ob ho).ev ev (fun b h => h5 b (hi.sep o b h).2.1)) d hd av v hv

theorem repFs_map {w : World} {im : Nat → Prop} {μ : Mu} {hp : Hp} {ρ : Operand → Value} : ∀ (l : List Operand), (∀ x ∈ l, RepV w im μ hp (s.ev C x) (ρ x)) → (∀ x ∈ l, (s.ev C x).plain = true) → RepFs w im μ hp (l.map (s.ev C)) (l.map ρ)
  | [], _, _ => by simp [RepFs]
  | x :: l, h, hp => by
    simp only [List.map_cons, RepFs]
    obtain ⟨h1, h2⟩ := (h x (by simp)).toA (hp x (by simp))
    exact ⟨_, _, rfl, h1, h2, repFs_map l (fun y hy => h y (by simp [hy])) (fun y hy => hp y (by simp [hy]))⟩

theorem ok_makeFunc {f : Fn} {cap : Array Operand} {caps : List AV} (hc : cap.toList.map (s.ev C) = caps) (hp : ∀ a ∈ caps, a.plain = true) : OpOK P C ⟨dst, .makeFunc f #[] cap, ty, pos, aft, gd⟩ ⟨dst, .fn f [] caps, [], []⟩ s :=
  ok_pure fun w im μ hp' ρ h => by
    subst hc
    refine ⟨.func f #[] (cap.map ρ), ?_, ⟨?_, rfl⟩⟩
    · simp [execOp, Instr.makeFunc]
    · simp only [RepA, RepFs, Value.cells]
      refine ⟨[], cap.toList.map ρ, by congr 2; apply Array.ext'; simp, rfl, repFs_map _ (fun x hx => h x (by simpa [Op.operands] using hx)) (fun x hx => hp _ (List.mem_map.2 ⟨x, hx, rfl⟩))⟩

theorem ok_nilCheck_op {x : Operand} {o : Nat} {p : List Nat} {off : Nat} (hx : s.ev C x = .op o p off) : OpOK P C ⟨dst, .nilCheck x, ty, pos, aft, gd⟩ ⟨dst, .op o p off, [], []⟩ s :=
  ok_pure fun w im μ hp ρ h => by
    have hr := hx ▸ h x (by simp [Op.operands])
    obtain ⟨b, u, h1, h2, hv⟩ := ptr_eq hr
    exact ⟨ρ x, by simp [execOp, hv], hr⟩

theorem ok_max {x y : Operand} {ts : Array TypeId} {k k2 : IntKind} {a b : Int} (hx : s.ev C x = .d (.int k) a) (hy : s.ev C y = .d (.int k2) b) : OpOK P C ⟨dst, .call ⟨.builtin .max, #[x, y], ts⟩, ty, pos, aft, gd⟩ ⟨dst, .d (.int k) (if b > a then b else a), [], []⟩ s :=
  ok_pure fun w im μ hp ρ h => by
    have e1 := int_eq (hx ▸ h x (by simp [Op.operands, Call.operands]))
    have e2 := int_eq (hy ▸ h y (by simp [Op.operands, Call.operands]))
    refine ⟨.int k (if b > a then b else a), ?_, constAV_rep _ _ _ _ (.int k (if b > a then b else a))⟩
    simp [execOp, resolve, invoke, builtin, e1, e2, Builtin.max_, Builtin.max2]

theorem ok_min {x y : Operand} {ts : Array TypeId} {k k2 : IntKind} {a b : Int} (hx : s.ev C x = .d (.int k) a) (hy : s.ev C y = .d (.int k2) b) : OpOK P C ⟨dst, .call ⟨.builtin .min, #[x, y], ts⟩, ty, pos, aft, gd⟩ ⟨dst, .d (.int k) (if b < a then b else a), [], []⟩ s :=
  ok_pure fun w im μ hp ρ h => by
    have e1 := int_eq (hx ▸ h x (by simp [Op.operands, Call.operands]))
    have e2 := int_eq (hy ▸ h y (by simp [Op.operands, Call.operands]))
    refine ⟨.int k (if b < a then b else a), ?_, constAV_rep _ _ _ _ (.int k (if b < a then b else a))⟩
    simp [execOp, resolve, invoke, builtin, e1, e2, Builtin.min_, Builtin.min2]

/-- a byte of a string -/
theorem ok_index_str {x y : Operand} {t : TypeId} {l : List UInt8} {k : IntKind} {n : Int} {z : UInt8} (hx : s.ev C x = .d .str l) (hy : s.ev C y = .d (.int k) n) (ht : P.underlying t = some .string) (h0 : 0 ≤ n) (hz : l[n.toNat]? = some z) :
    OpOK P C ⟨dst, .index t x y, ty, pos, aft, gd⟩ ⟨dst, .d (.int .u8) (z.toNat : Int), [], []⟩ s :=
  ok_pure fun w im μ hp ρ h => by
    have e1 := scal_eq (u := .string ⟨l.toArray⟩) (by rw [hx]; rfl) (h x (by simp [Op.operands]))
    have e2 := int_eq (hy ▸ h y (by simp [Op.operands]))
    refine ⟨.int .u8 z.toNat, ?_, constAV_rep _ _ _ _ (.int .u8 z.toNat)⟩
    obtain ⟨hlt, hz'⟩ := List.getElem?_eq_some_iff.1 hz
    have hb : (⟨l.toArray⟩ : ByteArray)[n.toNat]? = some z := by
      have hsz : n.toNat < (⟨l.toArray⟩ : ByteArray).size := by simpa [ByteArray.size] using hlt
      rw [getElem?_pos (⟨l.toArray⟩ : ByteArray) n.toNat hsz]
      exact congrArg some hz'
    simp [execOp, e1, e2, Instr.index, asIntOf, run_underlying ht, h0, hb]

theorem ok_makeIface {t : TypeId} {x : Operand} {v : AV} (hx : s.ev C x = v) (hv : v.plain = true) (ht : NoIf P t) : OpOK P C ⟨dst, .makeInterface t x, ty, pos, aft, gd⟩ ⟨dst, .iface t v, [], []⟩ s :=
  ok_pure fun w im μ hp ρ h => by
    obtain ⟨d, hd, hd2⟩ := ht
    have hr := (hx ▸ h x (by simp [Op.operands])).toA hv
    refine ⟨.iface t (ρ x), ?_, ⟨?_, rfl⟩⟩
    · simp only [execOp, Instr.makeInterface, Sem.run_bind, run_underlying hd, Result.andThen_ok]
      cases d <;> first | rfl | simp at hd2
    · simp only [RepA, Value.cells]; exact ⟨ρ x, rfl, hr.1, hr.2⟩

theorem ok_nilCheck_ip {x : Operand} {τ : Ty} {y : τ.den} (hx : s.ev C x = .ip τ y) : OpOK P C ⟨dst, .nilCheck x, ty, pos, aft, gd⟩ ⟨dst, .ip τ y, [], []⟩ s :=
  ok_pure fun w im μ hp ρ h => by
    have hr := hx ▸ h x (by simp [Op.operands])
    have hr2 := hr
    obtain ⟨h1, h2⟩ := hr
    simp only [RepA] at h1
    obtain ⟨b, off, hc, _⟩ := h1
    have hv : ρ x = .pointer (some ⟨b, off, none⟩) := by
      generalize ρ x = v at hc h2
      cases v <;> simp_all [Value.cells, vIsAgg, AV.isAgg]
    exact ⟨ρ x, by simp [execOp, hv], hr2⟩

theorem ok_quoM {k : IntKind} {xt yt : TypeId} {x y : Operand} {a b z : Int} (hx : s.ev C x = .d (.int k) a) (hy : s.ev C y = .d (.int k) b) (h : quo k a b = some z) :
    OpOK P C ⟨dst, .binOp .quo xt x y yt, ty, pos, aft, gd⟩ ⟨dst, .d (.int k) z, [], []⟩ s := (ok_quo hx hy (quo_some h).1).cast (by rw [(quo_some h).2])

theorem ok_remM {k : IntKind} {xt yt : TypeId} {x y : Operand} {a b z : Int} (hx : s.ev C x = .d (.int k) a) (hy : s.ev C y = .d (.int k) b) (h : rem a b = some z) :
    OpOK P C ⟨dst, .binOp .rem xt x y yt, ty, pos, aft, gd⟩ ⟨dst, .d (.int k) z, [], []⟩ s := (ok_rem hx hy (rem_some h).1).cast (by rw [(rem_some h).2])

theorem ok_shlM {k yk : IntKind} {xt yt : TypeId} {x y : Operand} {a b z : Int} (hx : s.ev C x = .d (.int k) a) (hy : s.ev C y = .d (.int yk) b) (h : shl k a b = some z) :
    OpOK P C ⟨dst, .binOp .shl xt x y yt, ty, pos, aft, gd⟩ ⟨dst, .d (.int k) z, [], []⟩ s := by
  unfold shl at h
  by_cases h0 : 0 ≤ b
  · rw [if_pos h0] at h; cases h; exact ok_shift hx hy h0 (.inl rfl) rfl rfl
  · rw [if_neg h0] at h; cases h

theorem ok_shrM {k yk : IntKind} {xt yt : TypeId} {x y : Operand} {a b z : Int} (hx : s.ev C x = .d (.int k) a) (hy : s.ev C y = .d (.int yk) b) (h : shr k a b = some z) :
    OpOK P C ⟨dst, .binOp .shr xt x y yt, ty, pos, aft, gd⟩ ⟨dst, .d (.int k) z, [], []⟩ s := by
  unfold shr at h
  by_cases h0 : 0 ≤ b
  · rw [if_pos h0] at h; cases h; exact ok_shift hx hy h0 (.inr rfl) rfl rfl
  · rw [if_neg h0] at h; cases h

theorem iface_eq {w : World} {im : Nat → Prop} {μ : Mu} {hp : Hp} {t : TypeId} {k : IntKind} {n : Int} {v : Value} (h : RepV w im μ hp (.iface t (.d (.int k) n)) v) : v = .iface t (.int k n) := by
  obtain ⟨hr, hag⟩ := h
  simp only [RepA] at hr
  obtain ⟨u, hc, hu, hu2⟩ := hr
  have hu3 : u = .int k n := by
    simp only [RepD] at hu
    cases u <;> simp_all [Value.cells, vIsAgg, AV.isAgg, Ty.isAgg]
  subst hu3
  cases v <;> simp_all [Value.cells, vIsAgg, AV.isAgg]

/-- an interface value against nil -/
theorem ok_ifne {x : Operand} {xt yt t : TypeId} {k : IntKind} {n : Int} (hx : s.ev C x = .iface t (.d (.int k) n)) (ht : ∃ m, P.underlying xt = some (.interface m)) :
    OpOK P C ⟨dst, .binOp .neq xt x (.const .nilIface) yt, ty, pos, aft, gd⟩ ⟨dst, .d .bool true, [], []⟩ s :=
  ok_pure fun w im μ hp ρ h => by
    obtain ⟨m, ht⟩ := ht
    have e1 := iface_eq (hx ▸ h x (by simp [Op.operands]))
    have e2 : ρ (.const .nilIface) = .nilIface := scal_eq (u := .nilIface) rfl (h (.const .nilIface) (by simp [Op.operands]))
    have he : (Op.equal xt (.iface t (.int k n)) .nilIface).run P w = .ok false w := by
      show (Op.equalIn (9999 + 1) xt _ _).run P w = _
      rw [Op.equalIn.eq_2]
      simp only [Sem.run_bind, run_underlying ht, Result.andThen_ok]
      rfl
    have hb : binOp .neq xt (.iface t (.int k n)) .nilIface = (do pure (.bool (!(← Op.equal xt (.iface t (.int k n)) .nilIface)))) := rfl
    have hg : eqGuard .neq xt x (.const .nilIface) (.iface t (.int k n)) .nilIface = pure () := rfl
    refine ⟨.bool true, ?_, constAV_rep _ _ _ _ (.bool true)⟩
    simp only [execOp, e1, e2, hg, hb]
    simp [he]

theorem ok_ifne_nil {x : Operand} {xt yt : TypeId} (hx : s.ev C x = .nilif) (ht : ∃ m, P.underlying xt = some (.interface m)) :
    OpOK P C ⟨dst, .binOp .neq xt x (.const .nilIface) yt, ty, pos, aft, gd⟩ ⟨dst, .d .bool false, [], []⟩ s :=
  ok_pure fun w im μ hp ρ h => by
    obtain ⟨m, ht⟩ := ht
    have e1 : ρ x = .nilIface := scal_eq (u := .nilIface) (by rw [hx]; rfl) (h x (by simp [Op.operands]))
    have e2 : ρ (.const .nilIface) = .nilIface := scal_eq (u := .nilIface) rfl (h (.const .nilIface) (by simp [Op.operands]))
    have he : (Op.equal xt .nilIface .nilIface).run P w = .ok true w := by
      show (Op.equalIn (9999 + 1) xt _ _).run P w = _
      rw [Op.equalIn.eq_2]
      simp only [Sem.run_bind, run_underlying ht, Result.andThen_ok]
      rfl
    have hb : binOp .neq xt .nilIface .nilIface = (do pure (.bool (!(← Op.equal xt .nilIface .nilIface)))) := rfl
    have hg : eqGuard .neq xt x (.const .nilIface) .nilIface .nilIface = pure () := by simp [eqGuard]
    refine ⟨.bool false, ?_, constAV_rep _ _ _ _ (.bool false)⟩
    simp only [execOp, e1, e2, hg, hb]
    simp [he]

theorem ok_typeAssert {x : Operand} {xt t : TypeId} {k : IntKind} {n : Int} (hx : s.ev C x = .iface t (.d (.int k) n)) (ht : NoIf P t) :
    OpOK P C ⟨dst, .typeAssert x xt t true, ty, pos, aft, gd⟩ ⟨dst, .tup [.d (.int k) n, .d .bool true], [], []⟩ s :=
  ok_pure fun w im μ hp ρ h => by
    obtain ⟨d, hd, hd2⟩ := ht
    have e1 := iface_eq (hx ▸ h x (by simp [Op.operands]))
    refine ⟨.tuple #[.int k n, .bool true], ?_, ⟨[.int k n, .bool true], rfl, ?_⟩⟩
    · simp only [execOp, e1, Instr.typeAssert, Sem.run_bind, run_underlying hd, Result.andThen_ok]
      cases d <;> first | (exact Bool.noConfusion hd2) | (dsimp only; rw [if_pos rfl]; rfl)
    · simp only [RepFs, RepA, RepD]
      exact ⟨_, _, rfl, rfl, rfl, _, _, rfl, rfl, rfl, rfl⟩

/-- the literal of no parts -/
theorem ok_lit0 {t T : TypeId} {e : Ty} (ht : ElT P t T e) : OpOK P C ⟨dst, .buildSlice t 0 #[], ty, pos, aft, gd⟩ ⟨dst, .emp, [], []⟩ s := by
  intro s1 hop hhp im μ a w hi hd
  obtain ⟨i, z, hi1, hi2, hi3, hz1, hz2⟩ := ht.info
  refine ⟨.slice (some ⟨w.heap.size, 0, none⟩) 0 0, _, im, μ, .inl ?_, by
    rw [eff_plain_app]
    exact hi.grown (w' := w.alloc (.cells #[] T)) rfl rfl rfl (by simp) (fun b h => heap_alloc_old w _ h) hd ⟨⟨_, rfl⟩, rfl⟩⟩
  have hempty : ∀ f : Nat → Value, (Array.range 0).map f = #[] := fun f => Array.eq_empty_of_size_eq_zero (by simp)
  simp [execOp, Instr.buildSlice, Sem.run_bind, run_underlying ht.und, Result.andThen_ok, sizeOf, typeInfo, run_program, hi1, Sem.run_pure, Instr.fill, newRow_run, hempty]

/-- the struct type t: where its fields stand -/
def StT (P : Program) (t : TypeId) (places : List (Nat × Nat)) : Prop := ∃ fs : Array Field, P.underlying t = some (.struct fs) ∧ fs.toList.length = places.length ∧ ∀ (i : Nat) (f : Field) (p : Nat × Nat), fs.toList[i]? = some f → places[i]? = some p → f.offset = p.1 ∧ ∃ inf, P.info? f.type = some inf ∧ inf.size = p.2

inductive BuildA (C : Ctx) (s : ASt) (places : List (Nat × Nat)) : List (Nat × Operand) → AV → AV → Prop
  | nil {v : AV} : BuildA C s places [] v v
  | cons {i off off' sz : Nat} {x : Operand} {u v v' v'' : AV} {l : List (Nat × Operand)} : s.ev C x = u → u.plain = true → places[i]? = some (off, sz) → u.asize = sz → SetA v [i] off' u v' → off' = off → BuildA C s places l v' v'' → BuildA C s places ((i, x) :: l) v v''

theorem fill_build {w : World} {im : Nat → Prop} {μ : Mu} {hp : Hp} {places : List (Nat × Nat)} {place : Nat → Option (Nat × Nat)} {ρ : Operand → Value} (hpl : ∀ i p, places[i]? = some p → place i = some p) : ∀ {l : List (Nat × Operand)} {v v' : AV}, BuildA C s places l v v' →
    (∀ p ∈ l, RepV w im μ hp (s.ev C p.2) (ρ p.2)) → ∀ cells : Array Value, RepA w im μ hp v cells.toList → ∃ out, Instr.fill place cells (l.map fun p => (p.1, ρ p.2)) = some out ∧ RepA w im μ hp v' out.toList
  | _, _, _, .nil, _, cells, hc => ⟨cells, rfl, hc⟩
  | _, _, _, .cons (i := i) (x := x) hx hup hplc hsz hset ho h, hr, cells, hc => by
    subst ho
    obtain ⟨hur, hua⟩ := (hx ▸ hr (i, x) (by simp)).toA hup
    have hul := RepA.length _ _ hur
    obtain ⟨c1, c2, c3, hcs, hl1, hl2, hnew⟩ := hset.sound _ hc _ hur
    have hlen : cells.size = c1.length + (c2.length + c3.length) := by rw [← Array.length_toList, hcs]; simp
    simp only [List.map_cons]
    rw [fill_step (hpl _ _ hplc) (by rw [hul]; exact hsz) (by omega)]
    have e2 : cells.toList.drop (c1.length + c2.length) = c3 := by rw [hcs, ← List.drop_drop, List.drop_left, List.drop_left]
    have hsz2 : c2.length = _ := hl2.trans (hul.trans hsz)
    refine fill_build hpl h (fun p hp => hr p (by simp [hp])) _ ?_
    rw [← hl1, ← hsz2, e2]
    have e3 : cells.toList.take c1.length = c1 := by rw [hcs, List.take_left]
    rw [e3]
    simpa using hnew

def hasSl : Ty → Bool
  | .slice _ => true
  | .pair a b => hasSl a || hasSl b
  | _ => false
/-- the zero of a type: slices are known to be nil -/
def zeroN : Ty → AV
  | .slice _ => .nils
  | .pair a b => bif hasSl a || hasSl b then .pr (zeroN a) (zeroN b) else .d (.pair a b) (zden (.pair a b))
  | τ => .d τ (zden τ)
theorem zeroN_rep (w : World) (im : Nat → Prop) (μ : Mu) (hp : Hp) (τ : Ty) : RepA w im μ hp (zeroN τ) (zcells τ) := by
  induction τ with
  | slice e => simp only [zeroN, RepA, zcells]
  | pair a b iha ihb =>
    simp only [zeroN]
    cases hasSl a || hasSl b with
    | true => simp only [cond_true, RepA, zcells]; exact ⟨_, _, rfl, iha, ihb⟩
    | false => simp only [cond_false, RepA]; exact zcells_rep w im _
  | _ => simp only [zeroN, RepA]; exact zcells_rep w im _

theorem ok_build {t : TypeId} {parts : Array (Nat × Operand)} {places : List (Nat × Nat)} {τ : Ty} {v : AV} (ht : StT P t places) (hz : TyZ P t τ) (hb : BuildA C s places parts.toList (zeroN τ) v) (hv : v.isAgg = true) :
    OpOK P C ⟨dst, .build t parts, ty, pos, aft, gd⟩ ⟨dst, v, [], []⟩ s :=
  ok_pure fun w im μ hp ρ h => by
    obtain ⟨fs, hu, hl, hall⟩ := ht
    obtain ⟨z, hzr, hzc⟩ := run_zero hz w
    have hplaces : (fs.mapM fun (f : Field) => (do pure (f.offset, ← sizeOf f.type) : Sem (Nat × Nat))).run P w = .ok places.toArray w := by
      rw [Array.mapM_eq_mapM_toList, Sem.run_map]
      have : ∀ (l : List Field) (ps : List (Nat × Nat)), l.length = ps.length → (∀ (i : Nat) (f : Field) (p : Nat × Nat), l[i]? = some f → ps[i]? = some p → f.offset = p.1 ∧ ∃ inf, P.info? f.type = some inf ∧ inf.size = p.2) →
          (l.mapM fun f => (do pure (f.offset, ← sizeOf f.type) : Sem (Nat × Nat))).run P w = .ok ps w := by
        intro l
        induction l with
        | nil => intro ps hl _; cases ps <;> simp_all
        | cons f l ih =>
          intro ps hl ha
          match ps, hl with
          | p :: ps, hl =>
            obtain ⟨h1, inf, h2, h3⟩ := ha 0 f p rfl rfl
            have := ih ps (by simpa using hl) (fun i f p hf hp => ha (i + 1) f p (by simpa using hf) (by simpa using hp))
            rw [List.mapM_cons, Sem.run_bind]
            have hs : (do pure (f.offset, ← sizeOf f.type) : Sem (Nat × Nat)).run P w = .ok p w := by
              simp [sizeOf, typeInfo, h2, h1, h3]
            rw [hs]
            simp only [Result.andThen_ok, Sem.run_bind, this, Sem.run_pure]
      rw [this _ _ hl hall]; rfl
    obtain ⟨out, hfill, hrep⟩ := fill_build (place := fun i => places.toArray[i]?) (ρ := ρ) (fun i p hp => by simpa using hp) hb (fun p hp => h p.2 (by simp only [Op.operands]; exact List.mem_map.2 ⟨p, hp, rfl⟩)) z.cells (by rw [hzc]; exact zeroN_rep w im _ _ τ)
    refine ⟨.agg out, ?_, RepV.ofA (by simpa [Value.cells] using hrep) (by rw [hv]; rfl)⟩
    have hmap : (parts.map fun (i, x) => (i, ρ x)).toList = parts.toList.map fun p => (p.1, ρ p.2) := by simp
    simp only [execOp, Instr.build, Sem.run_bind, hzr, Result.andThen_ok, run_underlying hu]
    rw [hplaces]
    simp only [Result.andThen_ok, hmap, hfill, Sem.run_pure]

/-- t: an array of n elements e -/
structure ArE (P : Program) (t : TypeId) (n : Nat) (e : Ty) : Prop where
  und : ∃ T, P.underlying t = some (.array n T) ∧ TyS P T e.size e.isAgg
  zero : TyZ P t (.arr n e)

theorem run_sizeOf2 {t : TypeId} {n : Nat} {agg : Bool} (h : TyS P t n agg) (w : World) : (sizeOf t).run P w = .ok n w := by
  obtain ⟨i, h1, h2⟩ := h.info
  simp [sizeOf, typeInfo, h1, h2]

theorem setAll_length {α : Type} : ∀ (ys : List (Nat × α)) (l : List α), (setAll l ys).length = l.length
  | [], _ => rfl
  | _ :: ys, l => by simp only [setAll]; rw [setAll_length ys]; simp

/-- an array, built -/
theorem ok_buildArr {t : TypeId} {n : Nat} {parts : Array (Nat × Operand)} {e : Ty} {ys : List (Nat × e.den)} (ht : ArE P t n e) (hlen : parts.toList.length = ys.length)
    (hp : ∀ (k i : Nat) (x : Operand), parts.toList[k]? = some (i, x) → ∃ y, ys[k]? = some (i, y) ∧ s.ev C x = .d e y ∧ i < n) :
    OpOK P C ⟨dst, .build t parts, ty, pos, aft, gd⟩ ⟨dst, .d (.arr n e) (setAll (List.replicate n (zden e)) ys), [], []⟩ s :=
  ok_pure fun w im μ hp' ρ h => by
    obtain ⟨⟨T, hT, hTs⟩, hz⟩ := ht
    obtain ⟨z, hzr, hzc⟩ := run_zero hz w
    have h0 := (zcells_rep w im (.arr n e)).2
    obtain ⟨out, hfill, hrep⟩ := fill_list (w := w) (im := im) (parts.toList.map fun p => (p.1, ρ p.2)) ys z.cells (List.replicate n (zden e)) (by rw [hzc]; exact h0) (by simpa using hlen) (fun k j v hk => by
      rw [List.getElem?_map, Option.map_eq_some_iff] at hk
      obtain ⟨⟨j', x⟩, hk, he⟩ := hk
      simp only [Prod.mk.injEq] at he
      obtain ⟨rfl, rfl⟩ := he
      obtain ⟨y, hy, hc, hlt⟩ := hp k j' x hk
      have hr := h x (by simp only [Op.operands]; exact List.mem_map.2 ⟨(j', x), List.mem_of_getElem? hk, rfl⟩)
      rw [hc] at hr
      obtain ⟨hr, _⟩ := hr
      simp only [RepA] at hr
      exact ⟨y, hy, hr, by simpa using hlt⟩)
    refine ⟨.agg out, ?_, ?_⟩
    · have hmap : (parts.map fun (i, x) => (i, ρ x)).toList = parts.toList.map fun p => (p.1, ρ p.2) := by simp
      simp only [execOp, Instr.build, Sem.run_bind, hzr, Result.andThen_ok, run_underlying hT, run_sizeOf2 hTs, hmap, hfill, Sem.run_pure]
    · refine RepV.ofA ?_ rfl
      simp only [RepA, RepD, Value.cells]
      exact ⟨by rw [setAll_length]; simp, hrep⟩

/-- an element of an array by value -/
theorem ok_index_arr {x y : Operand} {t : TypeId} {m : Nat} {e : Ty} {xs : List e.den} {k : IntKind} {n : Int} {z : e.den} (hx : s.ev C x = .d (.arr m e) xs) (hy : s.ev C y = .d (.int k) n) (ht : ArE P t m e) (h : idx xs n = some z) :
    OpOK P C ⟨dst, .index t x y, ty, pos, aft, gd⟩ ⟨dst, .d e z, [], []⟩ s :=
  ok_pure fun w im μ hp ρ hr => by
    obtain ⟨⟨T, hT, hTs⟩, _⟩ := ht
    have e2 := int_eq (hy ▸ hr y (by simp [Op.operands]))
    obtain ⟨h0, hz⟩ := idx_some h
    obtain ⟨hc, hag⟩ := hx ▸ hr x (by simp [Op.operands])
    simp only [RepA, RepD] at hc
    obtain ⟨hl, hrl⟩ := hc
    have hv : ∃ cs, ρ x = .agg cs := by
      generalize ρ x = v at hag
      cases v <;> simp_all [vIsAgg, AV.isAgg, Ty.isAgg]
    obtain ⟨cs, hv⟩ := hv
    rw [hv] at hrl
    simp only [Value.cells] at hrl
    obtain ⟨hg1, hg2⟩ := RepL.get (RepD.length e) hrl hz
    have hlt : n.toNat < m := by rw [← hl]; exact (List.getElem?_eq_some_iff.1 hz).1
    have hle : (n.toNat + 1) * e.size ≤ cs.toList.length := by
      have h1 := RepL.length (RepD.length e) _ _ hrl
      rw [h1, hl]; exact Nat.mul_le_mul_right _ hlt
    rw [Nat.add_mul, Nat.one_mul] at hle
    have hsplit : cs.toList = cs.toList.take (n.toNat * e.size) ++ ((cs.toList.drop (n.toNat * e.size)).take e.size ++ (cs.toList.drop (n.toNat * e.size)).drop e.size) := by
      rw [List.take_append_drop, List.take_append_drop]
    have hlen1 : (cs.toList.take (n.toNat * e.size)).length = n.toNat * e.size := by rw [List.length_take]; omega
    have hpart := run_part hTs w hsplit hg2 (fun hag => asize_one (a := .d e z) hag)
    rw [hlen1] at hpart
    refine ⟨mkVal e.isAgg ((cs.toList.drop (n.toNat * e.size)).take e.size), ?_, ?_⟩
    · have hcond : 0 ≤ n ∧ n < (m : Int) := ⟨h0, by omega⟩
      simp only [execOp, e2, hv, Instr.index, asIntOf, Sem.run_bind, Sem.run_pure, Result.andThen_ok, run_underlying hT]
      rw [if_pos hcond]
      simp only [Sem.run_bind, run_sizeOf2 hTs, Result.andThen_ok, hpart]
    · have hmk : RepA w im μ hp (.d e z) ((cs.toList.drop (n.toNat * e.size)).take e.size) := by simp only [RepA]; exact hg1
      exact hmk.toV


/-! ### data, out of arrays that turn no more -/

/-- what an abstract value is as data -/
inductive CoeF (hp : Hp) : AV → (t : Ty) → t.den → Prop
  | d {t : Ty} {x : t.den} : CoeF hp (.d t x) t x
  | nils {e : Ty} : CoeF hp .nils (.slice e) []
  | emp {e : Ty} : CoeF hp .emp (.slice e) []
  | os {o n : Nat} {T : TypeId} {e : Ty} {xs : List e.den} : hp o = some (.arr T e n true xs) → CoeF hp (.os o n) (.slice e) xs
  | pr {a b : AV} {ta tb : Ty} {x : ta.den} {y : tb.den} : CoeF hp a ta x → CoeF hp b tb y → CoeF hp (.pr a b) (.pair ta tb) (x, y)

def AV.osl : AV → List Nat
  | .os o _ => [o]
  | .pr a b => a.osl ++ b.osl
  | _ => []

theorem CoeF.congr {hp hp' : Hp} {a : AV} {t : Ty} {x : t.den} (h : CoeF hp a t x) : (∀ k ∈ a.osl, hp' k = hp k) → CoeF hp' a t x := by
  induction h with
  | d => exact fun _ => .d
  | nils => exact fun _ => .nils
  | emp => exact fun _ => .emp
  | os h => exact fun hk => .os ((hk _ (by simp [AV.osl])).trans h)
  | pr _ _ ih1 ih2 => exact fun hk => .pr (ih1 (fun k h => hk k (by simp [AV.osl, h]))) (ih2 (fun k h => hk k (by simp [AV.osl, h])))

theorem CoeF.plain {hp : Hp} {a : AV} {t : Ty} {x : t.den} (h : CoeF hp a t x) : a.plain = true := by cases h <;> rfl
theorem CoeF.agg {hp : Hp} {a : AV} {t : Ty} {x : t.den} (h : CoeF hp a t x) : a.isAgg = t.isAgg := by cases h <;> rfl

theorem CoeF.sound {w : World} {im : Nat → Prop} {μ : Mu} {hp : Hp} (hob : ∀ k ob, hp k = some ob → RepO w im μ hp (μ k) ob) {a : AV} {t : Ty} {x : t.den} (h : CoeF hp a t x) : ∀ cs, RepA w im μ hp a cs → RepD w im t cs x := by
  induction h with
  | d => intro cs hr; simp only [RepA] at hr; exact hr
  | nils => intro cs hr; simp only [RepA] at hr; exact ⟨none, 0, hr, Nat.le_refl _, Nat.zero_le _, fun _ => rfl, rfl⟩
  | emp =>
    intro cs hr
    simp only [RepA] at hr
    obtain ⟨ad, hr⟩ := hr
    refine ⟨ad, 0, hr, Nat.le_refl _, Nat.zero_le _, fun _ => rfl, ?_⟩
    cases ad
    · exact rfl
    · exact .inl rfl
  | @os o n T e xs ho =>
    intro cs hr
    simp only [RepA] at hr
    obtain ⟨T', e', m', z', xs', ho', hle, u, hc, h1, hpl⟩ := hr
    rw [ho] at ho'
    cases ho'
    have hpl2 := hpl rfl
    subst hc
    rcases hob o _ ho with ⟨ad, hp', rfl⟩ | ⟨hz, _⟩ | ⟨_, b, cap, cs, hp', hb, h1', h2', h3', h4'⟩
    · rw [hp'] at hpl2
      simp only [PlSlice] at hpl2
      subst hpl2
      refine ⟨ad, 0, rfl, Nat.le_refl _, Nat.zero_le _, fun _ => rfl, ?_⟩
      cases ad
      · exact rfl
      · exact .inl rfl
    · cases hz
    · rw [hp'] at hpl2
      simp only [PlSlice] at hpl2
      subst hpl2
      exact ⟨some ⟨b, 0, none⟩, cap, rfl, h1', h2', (fun h => by cases h), .inr ⟨rfl, hb, cs, h3', h4'⟩⟩
  | pr _ _ ih1 ih2 =>
    intro cs hr
    simp only [RepA] at hr
    obtain ⟨c1, c2, e, h1, h2⟩ := hr
    exact ⟨c1, c2, e, ih1 c1 h1, ih2 c2 h2⟩

/-! ### a slice literal -/

theorem ok_buildSliceF {d o : Nat} {t T : TypeId} {n : Nat} {parts : Array (Nat × Operand)} {e : Ty} {ys : List (Nat × e.den)} {xs : List e.den} (rdl : List Nat) (ht : ElT P t T e) (h0 : s.hp o = none) (hn : n * e.size ≤ 2 ^ 24) (hlen : parts.toList.length = ys.length)
    (hp : ∀ (k i : Nat) (x : Operand), parts.toList[k]? = some (i, x) → ∃ y, ys[k]? = some (i, y) ∧ CoeF s.hp (s.ev C x) e y ∧ (∀ k ∈ (s.ev C x).osl, k ∈ rdl) ∧ i < n) (hxs : setAll (List.replicate n (zden e)) ys = xs) :
    OpOK P C ⟨some d, .buildSlice t n parts, ty, pos, aft, gd⟩ ⟨some d, .os o 0, rdl, [(o, .arr T e 0 false xs)]⟩ s := by
  intro s1 hop hhp im μ a w hi hd
  have h01 : s1.hp o = none := (hhp o (.inr (by simp))).trans h0
  obtain ⟨i, z, hi1, hi2, hi3, hz1, hz2⟩ := ht.info
  have hzc := zero_cells_eq hz2 n
  have hrep0 : RepL (RepD w im e) ((Array.range (n * e.size)).map (z.cells[· % z.cells.size]!)).toList (List.replicate n (zden e)) := by
    rw [hzc]; exact RepL.replicate (zcells_rep w im e) n
  obtain ⟨out, hfill, hrep⟩ := fill_list (parts.toList.map fun p => (p.1, a.eval p.2)) ys _ _ hrep0 (by simpa using hlen) (fun k j v hk => by
    rw [List.getElem?_map, Option.map_eq_some_iff] at hk
    obtain ⟨⟨j', x⟩, hk, he⟩ := hk
    simp only [Prod.mk.injEq] at he
    obtain ⟨rfl, rfl⟩ := he
    obtain ⟨y, hy, hc0, hrd, hlt⟩ := hp k j' x hk
    have hc : CoeF s1.hp (s.ev C x) e y := hc0.congr (fun k hk => hhp k (.inl (hrd k hk)))
    have hx1 : s1.ev C x = s.ev C x := hop x (by
      simp only [Op.operands]
      exact List.mem_map.2 ⟨(j', x), List.mem_of_getElem? hk, rfl⟩)
    have hr := (hi.ev x).toA (by rw [hx1]; exact hc.plain)
    rw [hx1] at hr
    exact ⟨y, hy, hc.sound hi.obj _ hr.1, by simpa using hlt⟩)
  rw [hxs] at hrep
  have hxl : xs.length = n := by
    rw [← hxs]
    have : ∀ (ys : List (Nat × e.den)) (l : List e.den), (setAll l ys).length = l.length := by
      intro ys
      induction ys with
      | nil => intro l; rfl
      | cons y ys ih => intro l; simp only [setAll]; rw [ih]; simp
    rw [this]; simp
  have hlo := RepL.length (RepD.length e) _ _ hrep
  rw [Array.length_toList] at hlo
  have hnew := hi.newArr (w1 := w) rfl rfl rfl rfl (hd d rfl) h01 (cells := out) (T := T) (e := e) (xs := xs) (cap := n) (by omega) (by
      have : n ≤ n * e.size := Nat.le_mul_of_pos_right _ ht.pos
      unfold maxLen; omega) (by rw [hlo, hxl]) (by rw [← hlo, List.take_of_length_le (by simp)]; exact hrep)
  rw [hxl] at hnew
  refine ⟨_, _, im, _, .inl ?_, hnew⟩
  have hne : ¬ (n * e.size > 2 ^ 24) := by omega
  have hmap : (parts.map fun (i, x) => (i, a.eval x)).toList = parts.toList.map fun p => (p.1, a.eval p.2) := by simp
  simp only [execOp, Instr.buildSlice, Sem.run_bind, run_underlying ht.und, Result.andThen_ok, sizeOf, typeInfo, run_program, hi1, Sem.run_pure, hi2, if_neg hne]
  by_cases h00 : n * e.size = 0
  · have hn0 : n = 0 := by
      rcases Nat.mul_eq_zero.1 h00 with h | h
      · exact h
      · have := ht.pos; omega
    subst hn0
    have hempty : ∀ f : Nat → Value, (Array.range (0 * e.size)).map f = #[] := fun f => Array.eq_empty_of_size_eq_zero (by simp)
    rw [hempty] at hfill
    simp only [if_pos h00, Sem.run_pure, Result.andThen_ok, hempty, hmap, hfill, Sem.run_bind, newRow_run]
  · simp only [if_neg h00, zeroValue, Sem.run_bind, typeInfo, run_program, hi1, Sem.run_pure, Result.andThen_ok, hz1]
    rw [hmap, hfill]
    simp [newRow_run]


theorem ok_store_oeF {t : TypeId} {x y : Operand} {o m i : Nat} {T : TypeId} {e : Ty} {xs : List e.den} {z : e.den} (hx : s.ev C x = .oe o m i) (ho : s.hp o = some (.arr T e m false xs)) (hi' : i < xs.length) (hy : CoeF s.hp (s.ev C y) e z) (rdl : List Nat) (hrd : ∀ k ∈ (s.ev C y).osl, k ∈ rdl)
    {agg : Bool} (ht : TyS P t e.size agg) : OpOK P C ⟨none, .store t x y, ty, pos, aft, gd⟩ ⟨none, .undef, rdl, [(o, .arr T e m false (xs.set i z))]⟩ s := by
  intro s1 hop hhp im μ a w hi hd
  have hx1 : s1.ev C x = .oe o m i := (hop x (by simp [Op.operands])).trans hx
  have hy1 : s1.ev C y = s.ev C y := hop y (by simp [Op.operands])
  have hyc : CoeF s1.hp (s.ev C y) e z := hy.congr (fun k hk => hhp k (.inl (hrd k hk)))
  have ho1 : s1.hp o = some (.arr T e m false xs) := (hhp o (.inr (by simp))).trans ho
  obtain ⟨hr, hag⟩ := hx1 ▸ hi.ev x
  obtain ⟨hur0, hua⟩ := (hy1 ▸ hi.ev y : RepV w im μ s1.hp (s.ev C y) (a.eval y)).toA hyc.plain
  have hur := hyc.sound hi.obj _ hur0
  simp only [RepA] at hr
  obtain ⟨T', e', m', z', xs', ho', hle, u, hc, h1, hpl⟩ := hr
  rw [ho1] at ho'
  cases ho'
  obtain ⟨b, cap, hp1, rfl⟩ := hpl rfl
  rcases hi.obj o _ ho1 with ⟨ad, hp', rfl⟩ | ⟨_, b', cap', cells, hp', hb, hcap, hmax, hsz, hl⟩ | ⟨hz, _⟩
  · simp at hi'
  · obtain ⟨rfl, rfl⟩ : b' = b ∧ cap' = cap := by
      rcases hp1 with hp1 | hp1 <;> rw [hp1] at hp' <;> cases hp' <;> exact ⟨rfl, rfl⟩
    replace hp1 := hp'
    have hv : a.eval x = .pointer (some ⟨b', i * e.size, none⟩) := by
      generalize a.eval x = v at hc hag
      cases v <;> simp_all [Value.cells, vIsAgg, AV.isAgg]
    have hlen := RepL.length (RepD.length e) _ _ hl
    have hzl := RepD.length e _ _ hur
    have hle1 : (i + 1) * e.size ≤ xs.length * e.size := Nat.mul_le_mul_right _ (by omega)
    have hle2 : xs.length * e.size ≤ cells.size := by rw [hsz]; exact Nat.mul_le_mul_right _ hcap
    rw [Nat.add_mul, Nat.one_mul] at hle1
    have hcs : cells.toList = cells.toList.take (i * e.size) ++ ((cells.toList.drop (i * e.size)).take e.size ++ cells.toList.drop (i * e.size + e.size)) := by
      rw [← List.drop_drop, List.take_append_drop, List.take_append_drop]
    have l1 : (cells.toList.take (i * e.size)).length = i * e.size := by rw [List.length_take, Array.length_toList]; omega
    have l2 : ((cells.toList.drop (i * e.size)).take e.size).length = (a.eval y).cells.toList.length := by rw [List.length_take, List.length_drop, Array.length_toList, hzl]; omega
    have hrun := run_storeVar' ht w hb hcs l1 l2 hzl (RepD.one e _ _ hur)
    have hev : ∀ ob, s1.hp o = some ob → ObEv ob (μ o) (.arr T e m false (xs.set i z)) (.row b' cap') := by
      intro ob hob
      rw [ho1] at hob
      obtain rfl := Option.some.inj hob
      exact ⟨m, false, _, rfl, .inl ⟨rfl, by simp, .inl hp1.symm⟩⟩
    have hw : WStep w (w.setRow b' (cells.toList.take (i * e.size) ++ ((a.eval y).cells.toList ++ cells.toList.drop (i * e.size + e.size))).toArray) (μ o).blk :=
      ⟨rfl, rfl, rfl, by simp [World.setRow], fun k _ hk => setRow_other w b' k _ (fun e => hk (by rw [hp1, e]; rfl))⟩
    have ev := hi.evObj hev hw
    refine ⟨Go.undef, _, im, _, .inr ⟨rfl, ?_⟩, hi.obj1 (dst := none) hev hw ?_ ?_ (fun d h => by cases h) trivial⟩
    · simp only [execOp, hv, Instr.storeAt, Instr.sureAddr, Sem.run_bind, Sem.run_pure, Result.andThen_ok, hrun]
    · intro k hk
      cases hk
      have hlt : b' < w.heap.size := (Array.getElem?_eq_some_iff.1 hb).1
      exact ⟨by simpa [World.setRow] using hlt, .inl (by rw [hp1]; rfl)⟩
    · refine .inr (.inl ⟨rfl, b', cap', _, rfl, setRow_heap w b' _ _ _ _ hb, by simpa using hcap, hmax, ?_, ?_⟩)
      · rw [← hsz]
        simp only [List.size_toArray, List.length_append, List.length_take, List.length_drop, Array.length_toList, hzl]
        omega
      · have hset := RepL.set (RepD.length e) hl hi' hur
        rw [Nat.add_mul, Nat.one_mul] at hset
        have hmono := RepL.mono (RepD.mono ev.fim ev.fheap e) _ _ hset
        have he : (cells.toList.take (i * e.size) ++ ((a.eval y).cells.toList ++ cells.toList.drop (i * e.size + e.size))).take ((xs.set i z).length * e.size) =
            (cells.toList.take (xs.length * e.size)).take (i * e.size) ++ (a.eval y).cells.toList ++ (cells.toList.take (xs.length * e.size)).drop (i * e.size + e.size) := by
          have hAV : (cells.toList.take (i * e.size) ++ (a.eval y).cells.toList).length = i * e.size + e.size := by rw [List.length_append, l1, hzl]
          rw [List.length_set, List.take_take, Nat.min_eq_left (show i * e.size ≤ xs.length * e.size by omega), ← List.append_assoc, List.take_append, hAV, List.take_of_length_le (by omega), List.drop_take]
        rw [he]; exact hmono
  · cases hz


end
end Go.Vm
namespace Go.Vm

/-! ### frames -/

inductive Tr where
  | e
  | n (l : Tr) (v : AV) (r : Tr)

def Tr.get : Tr → Nat → AV
  | .e, _ => .undef
  | .n l v r, k => bif Nat.beq k 0 then v else bif Nat.beq (k % 2) 1 then l.get (k / 2) else r.get (k / 2 - 1)
def Tr.set : Tr → Nat → AV → Tr
  | .e, _, _ => .e
  | .n l v r, k, a => bif Nat.beq k 0 then .n l a r else bif Nat.beq (k % 2) 1 then .n (l.set (k / 2) a) v r else .n l v (r.set (k / 2 - 1) a)
def Tr.has : Tr → Nat → Bool
  | .e, _ => false
  | .n l _ r, k => bif Nat.beq k 0 then true else bif Nat.beq (k % 2) 1 then l.has (k / 2) else r.has (k / 2 - 1)
def Tr.full : Nat → Tr
  | 0 => .e
  | d + 1 => .n (Tr.full d) .undef (Tr.full d)

theorem Tr.has_set : ∀ (t : Tr) (k : Nat) (a : AV) (j : Nat), (t.set k a).has j = t.has j
  | .e, _, _, _ => rfl
  | .n l v r, k, a, j => by
    simp only [Tr.set]
    cases Nat.beq k 0 with
    | true => rfl
    | false =>
      cases Nat.beq (k % 2) 1 with
      | true => simp only [cond_false, cond_true, Tr.has, Tr.has_set l]
      | false => simp only [cond_false, Tr.has, Tr.has_set r]

theorem Tr.get_set : ∀ (t : Tr) (k : Nat) (a : AV) (j : Nat), t.has k = true → (t.set k a).get j = bif Nat.beq j k then a else t.get j
  | .e, _, _, _, h => by cases h
  | .n l v r, k, a, j, h => by
    simp only [Tr.has] at h
    simp only [Tr.set]
    cases hk : Nat.beq k 0 with
    | true =>
      have hk0 := Nat.eq_of_beq_eq_true hk
      subst hk0
      simp only [cond_true, Tr.get]
      cases Nat.beq j 0 <;> rfl
    | false =>
      rw [hk] at h
      have hk0 := beq_ne hk
      cases hm : Nat.beq (k % 2) 1 with
      | true =>
        rw [hm] at h
        have hm1 := Nat.eq_of_beq_eq_true hm
        simp only [cond_false, cond_true, Tr.get]
        cases hj : Nat.beq j 0 with
        | true =>
          have hj0 := Nat.eq_of_beq_eq_true hj
          subst hj0
          have : Nat.beq 0 k = false := by rw [← Bool.not_eq_true]; intro hb; exact hk0 (Nat.eq_of_beq_eq_true hb).symm
          simp [this]
        | false =>
          have hj0 := beq_ne hj
          cases hmj : Nat.beq (j % 2) 1 with
          | true =>
            have hmj1 := Nat.eq_of_beq_eq_true hmj
            simp only [cond_false, cond_true]
            rw [Tr.get_set l _ a _ h]
            congr 1
            cases hb : Nat.beq j k with
            | true => rw [Nat.eq_of_beq_eq_true hb]; exact Nat.beq_refl _
            | false =>
              have := beq_ne hb
              rw [← Bool.not_eq_true]; intro hb2; have := Nat.eq_of_beq_eq_true hb2; omega
          | false =>
            have hmj1 := beq_ne hmj
            simp only [cond_false]
            have : Nat.beq j k = false := by rw [← Bool.not_eq_true]; intro hb; have := Nat.eq_of_beq_eq_true hb; subst this; exact hmj1 hm1
            simp [this]
      | false =>
        rw [hm] at h
        have hm1 := beq_ne hm
        simp only [cond_false, Tr.get]
        cases hj : Nat.beq j 0 with
        | true =>
          have hj0 := Nat.eq_of_beq_eq_true hj
          subst hj0
          have : Nat.beq 0 k = false := by rw [← Bool.not_eq_true]; intro hb; exact hk0 (Nat.eq_of_beq_eq_true hb).symm
          simp [this]
        | false =>
          have hj0 := beq_ne hj
          cases hmj : Nat.beq (j % 2) 1 with
          | true =>
            have hmj1 := Nat.eq_of_beq_eq_true hmj
            simp only [cond_false, cond_true]
            have : Nat.beq j k = false := by rw [← Bool.not_eq_true]; intro hb; have := Nat.eq_of_beq_eq_true hb; subst this; exact hm1 hmj1
            simp [this]
          | false =>
            have hmj1 := beq_ne hmj
            simp only [cond_false]
            rw [Tr.get_set r _ a _ h]
            congr 1
            cases hb : Nat.beq j k with
            | true => rw [Nat.eq_of_beq_eq_true hb]; exact Nat.beq_refl _
            | false =>
              have := beq_ne hb
              rw [← Bool.not_eq_true]; intro hb2; have := Nat.eq_of_beq_eq_true hb2
              have h1 : j % 2 = 0 := by omega
              have h2 : k % 2 = 0 := by omega
              omega

theorem Tr.get_full : ∀ (d k : Nat), (Tr.full d).get k = .undef
  | 0, _ => rfl
  | d + 1, k => by
    simp only [Tr.full, Tr.get]
    cases Nat.beq k 0 with
    | true => rfl
    | false => cases Nat.beq (k % 2) 1 <;> simp only [cond_false, cond_true] <;> exact Tr.get_full d _

theorem Tr.has_full : ∀ (d k : Nat), k + 1 < 2 ^ d → (Tr.full d).has k = true
  | 0, k, h => by simp at h
  | d + 1, k, h => by
    simp only [Tr.full, Tr.has]
    rw [Nat.pow_succ] at h
    cases hk : Nat.beq k 0 with
    | true => rfl
    | false =>
      have := beq_ne hk
      cases hm : Nat.beq (k % 2) 1 with
      | true =>
        have := Nat.eq_of_beq_eq_true hm
        simp only [cond_false, cond_true]
        exact Tr.has_full d _ (by omega)
      | false =>
        have := beq_ne hm
        simp only [cond_false]
        exact Tr.has_full d _ (by omega)

/-- a frame of n slots that holds these -/
def mkFr (d : Nat) : List (Nat × AV) → Tr
  | [] => Tr.full d
  | (x, a) :: l => (mkFr d l).set x a

theorem mkFr_has (d : Nat) : ∀ (l : List (Nat × AV)) (k : Nat), (mkFr d l).has k = (Tr.full d).has k
  | [], _ => rfl
  | (x, a) :: l, k => by simp only [mkFr, Tr.has_set, mkFr_has d l]

theorem mkFr_get (d : Nat) : ∀ (l : List (Nat × AV)) (k : Nat), (mkFr d l).get k = .undef ∨ ∃ a, (k, a) ∈ l ∧ (mkFr d l).get k = a
  | [], k => .inl (Tr.get_full d k)
  | (x, a) :: l, k => by
    simp only [mkFr]
    cases hx : (mkFr d l).has x with
    | true =>
      rw [Tr.get_set _ _ _ _ hx]
      cases hb : Nat.beq k x with
      | true => exact .inr ⟨a, by rw [Nat.eq_of_beq_eq_true hb]; simp, rfl⟩
      | false =>
        rcases mkFr_get d l k with h | ⟨b, h1, h2⟩
        · exact .inl h
        · exact .inr ⟨b, by simp [h1], h2⟩
    | false =>
      have key : ∀ (t : Tr) (k j : Nat), t.has k = false → (t.set k a).get j = t.get j := by
        intro t
        induction t with
        | e => intro k j _; rfl
        | n l v r ih1 ih2 =>
          intro k j h
          simp only [Tr.has] at h
          simp only [Tr.set]
          cases h1 : Nat.beq k 0 with
          | true => rw [h1] at h; cases h
          | false =>
            rw [h1] at h
            cases h2 : Nat.beq (k % 2) 1 with
            | true => rw [h2] at h; simp only [cond_false, cond_true, Tr.get, ih1 _ _ h]
            | false => rw [h2] at h; simp only [cond_false, Tr.get, ih2 _ _ h]
      rw [key _ _ _ hx]
      rcases mkFr_get d l k with h | ⟨b, h1, h2⟩
      · exact .inl h
      · exact .inr ⟨b, by simp [h1], h2⟩

/-! ### states -/

abbrev LHp := List (Nat × AObj)
def hget : LHp → Nat → Option AObj
  | [], _ => none
  | (a, ob) :: r, o => bif Nat.beq a o then some ob else hget r o

theorem hget_find : ∀ (l : LHp) (o : Nat), hget l o = (match l.find? (fun p => Nat.beq p.1 o) with | some p => some p.2 | none => none)
  | [], _ => rfl
  | (a, ob) :: r, o => by
    simp only [hget, List.find?]
    cases Nat.beq a o with
    | true => rfl
    | false => exact hget_find r o

theorem hget_append (wr : LHp) (l : LHp) : hget (wr ++ l) = hpSet (hget l) wr := by
  funext o
  induction wr with
  | nil => simp [hpSet, List.find?]
  | cons p r ih =>
    obtain ⟨a, ob⟩ := p
    simp only [List.cons_append, hget, hpSet, List.find?] at ih ⊢
    cases Nat.beq a o with
    | true => rfl
    | false => exact ih

structure LSt where
  fr : Tr
  hp : LHp
  nx : Nat

def LSt.toA (s : LSt) : ASt := ⟨s.fr.get, hget s.hp⟩

/-- what one operation does -/
structure E1 where
  av : AV
  rd : List Nat
  wr : LHp
  nx : Nat

def LSt.app (s : LSt) (dst : Option Nat) (e : E1) : LSt :=
  ⟨match dst with | some d => s.fr.set d e.av | none => s.fr, e.wr ++ s.hp, e.nx⟩

/-! ### data -/

def AV.asD (a : AV) (t : Ty) : Option t.den :=
  match a with
  | .d t' x => if h : t' = t then some (h ▸ x) else none
  | _ => none

theorem AV.asD_some {a : AV} {t : Ty} {x : t.den} (h : a.asD t = some x) : a = .d t x := by
  unfold AV.asD at h
  split at h
  · split at h
    · rename_i t' y ht
      subst ht
      cases h; rfl
    · cases h
  · cases h

/-- what an abstract value is as data, the arrays in it turning no more -/
def toD (hp : LHp) : AV → (t : Ty) → Option t.den
  | .d t' x, t => if h : t' = t then some (h ▸ x) else none
  | .nils, .slice _ => some []
  | .emp, .slice _ => some []
  | .os o n, .slice e =>
    match hget hp o with
    | some (.arr _ e' m z xs) => bif Nat.beq n m && z then (if h : e' = e then some (h ▸ xs) else none) else none
    | _ => none
  | .pr a b, .pair ta tb =>
    match toD hp a ta with
    | some x => (match toD hp b tb with | some y => some (x, y) | none => none)
    | none => none
  | _, _ => none

theorem toD_some {hp : LHp} : ∀ {a : AV} {t : Ty} {x : t.den}, toD hp a t = some x → CoeF (hget hp) a t x
  | .d t' x', t, x, h => by
    simp only [toD] at h
    split at h
    · rename_i ht; subst ht; cases h; exact .d
    · cases h
  | .pr a b, .pair ta tb, x, h => by
    simp only [toD] at h
    cases h1 : toD hp a ta with
    | none => rw [h1] at h; cases h
    | some x1 =>
      rw [h1] at h
      simp only at h
      cases h2 : toD hp b tb with
      | none => rw [h2] at h; cases h
      | some y1 => rw [h2] at h; cases h; exact .pr (toD_some h1) (toD_some h2)
  | .nils, .slice _, x, h => by simp only [toD] at h; cases h; exact .nils
  | .emp, .slice _, x, h => by simp only [toD] at h; cases h; exact .emp
  | .os o n, .slice e, x, h => by
    simp only [toD] at h
    split at h
    · rename_i T e' m z xs ho
      cases hb : Nat.beq n m && z with
      | false => rw [hb] at h; cases h
      | true =>
        rw [hb] at h
        simp only [cond_true] at h
        split at h
        · rename_i he
          subst he
          simp only [Bool.and_eq_true] at hb
          have := Nat.eq_of_beq_eq_true hb.1
          subst this
          cases hb.2
          cases h
          exact .os ho
        · cases h
    · cases h
  | .pr _ _, .int _, _, h => by simp only [toD] at h; cases h
  | .pr _ _, .bool, _, h => by simp only [toD] at h; cases h
  | .pr _ _, .str, _, h => by simp only [toD] at h; cases h
  | .pr _ _, .flt _, _, h => by simp only [toD] at h; cases h
  | .pr _ _, .slice _, _, h => by simp only [toD] at h; cases h
  | .pr _ _, .unit, _, h => by simp only [toD] at h; cases h
  | .pr _ _, .arr _ _, _, h => by simp only [toD] at h; cases h
  | .nils, .int _, _, h => by simp only [toD] at h; cases h
  | .nils, .bool, _, h => by simp only [toD] at h; cases h
  | .nils, .str, _, h => by simp only [toD] at h; cases h
  | .nils, .flt _, _, h => by simp only [toD] at h; cases h
  | .nils, .pair _ _, _, h => by simp only [toD] at h; cases h
  | .nils, .unit, _, h => by simp only [toD] at h; cases h
  | .nils, .arr _ _, _, h => by simp only [toD] at h; cases h
  | .emp, .int _, _, h => by simp only [toD] at h; cases h
  | .emp, .bool, _, h => by simp only [toD] at h; cases h
  | .emp, .str, _, h => by simp only [toD] at h; cases h
  | .emp, .flt _, _, h => by simp only [toD] at h; cases h
  | .emp, .pair _ _, _, h => by simp only [toD] at h; cases h
  | .emp, .unit, _, h => by simp only [toD] at h; cases h
  | .emp, .arr _ _, _, h => by simp only [toD] at h; cases h
  | .os _ _, .int _, _, h => by simp only [toD] at h; cases h
  | .os _ _, .bool, _, h => by simp only [toD] at h; cases h
  | .os _ _, .str, _, h => by simp only [toD] at h; cases h
  | .os _ _, .flt _, _, h => by simp only [toD] at h; cases h
  | .os _ _, .pair _ _, _, h => by simp only [toD] at h; cases h
  | .os _ _, .unit, _, h => by simp only [toD] at h; cases h
  | .os _ _, .arr _ _, _, h => by simp only [toD] at h; cases h
  | .undef, _, _, h => by simp only [toD] at h; cases h
  | .ip _ _, _, _, h => by simp only [toD] at h; cases h
  | .op _ _ _, _, _, h => by simp only [toD] at h; cases h
  | .oe _ _ _, _, _, h => by simp only [toD] at h; cases h
  | .ow _ _ _ _, _, _, h => by simp only [toD] at h; cases h
  | .tup _, _, _, h => by simp only [toD] at h; cases h
  | .fn _ _ _, _, _, h => by simp only [toD] at h; cases h
  | .nilfn, _, _, h => by simp only [toD] at h; cases h
  | .iface _ _, _, _, h => by simp only [toD] at h; cases h
  | .nilif, _, _, h => by simp only [toD] at h; cases h
  | .nilp, _, _, h => by simp only [toD] at h; cases h
  | .ref _, _, _, h => by simp only [toD] at h; cases h

/-- the elements of a slice -/
def srcE (hp : LHp) (a : AV) (e : Ty) : Option (List e.den) :=
  match a with
  | .d (.slice e') xs => if h : e' = e then some (h ▸ xs) else none
  | .nils => some []
  | .emp => some []
  | .os o n =>
    match hget hp o with
    | some (.arr _ e' m _ xs) => bif Nat.beq n m then (if h : e' = e then some (h ▸ xs) else none) else none
    | _ => none
  | _ => none

theorem srcE_some {hp : LHp} {a : AV} {e : Ty} {xs : List e.den} (h : srcE hp a e = some xs) : Src (hget hp) a e xs := by
  unfold srcE at h
  split at h
  · split at h
    · rename_i he; subst he; cases h; exact .d
    · cases h
  · cases h; exact .nils
  · cases h; exact .emp
  · split at h
    · rename_i o n _ T e' m z ys ho
      cases hb : Nat.beq n m with
      | false => rw [hb] at h; cases h
      | true =>
        rw [hb] at h
        simp only [cond_true] at h
        split at h
        · rename_i he
          subst he
          have := Nat.eq_of_beq_eq_true hb
          subst this
          cases h
          exact .os ho
        · cases h
    · cases h
  · cases h

/-- the element type of a slice, and its elements -/
def srcA (hp : LHp) (a : AV) (dflt : Option Ty) : Option ((e : Ty) × List e.den) :=
  match a with
  | .d (.slice e) xs => some ⟨e, xs⟩
  | .nils => (match dflt with | some e => some ⟨e, []⟩ | none => none)
  | .emp => (match dflt with | some e => some ⟨e, []⟩ | none => none)
  | .os o n =>
    match hget hp o with
    | some (.arr _ e m _ xs) => bif Nat.beq n m then some ⟨e, xs⟩ else none
    | _ => none
  | _ => none

theorem srcA_some {hp : LHp} {a : AV} {dflt : Option Ty} {e : Ty} {xs : List e.den} (h : srcA hp a dflt = some ⟨e, xs⟩) : Src (hget hp) a e xs := by
  unfold srcA at h
  split at h
  · cases h; exact .d
  · split at h
    · cases h; exact .nils
    · cases h
  · split at h
    · cases h; exact .emp
    · cases h
  · split at h
    · rename_i o n _ T e' m z ys ho
      cases hb : Nat.beq n m with
      | false => rw [hb] at h; cases h
      | true =>
        rw [hb] at h
        cases h
        have := Nat.eq_of_beq_eq_true hb
        subst this
        exact .os ho
    · cases h
  · cases h

/-! ### parts of variables -/

variable {R : Type}

def subD : (t : Ty) → t.den → List Nat → (Nat → AV → Option R) → Option R
  | .pair a _, x, 0 :: p, k => subD a x.1 p k
  | .pair a b, x, (i + 1) :: p, k => subD b x.2 (i :: p) (fun off u => k (a.size + off) u)
  | .arr _ e, xs, i :: p, k => (xs[i]?).bind fun y => subD e y p (fun off u => k (i * e.size + off) u)
  | t, x, [], k => k 0 (.d t x)
  | _, _, _ :: _, _ => none

def subA : AV → List Nat → (Nat → AV → Option R) → Option R
  | .d t x, p, k => subD t x p k
  | .pr a _, 0 :: p, k => subA a p k
  | .pr a b, (i + 1) :: p, k => subA b (i :: p) (fun off u => k (a.asize + off) u)
  | a, [], k => k 0 a
  | _, _ :: _, _ => none

theorem subD_some : ∀ (t : Ty) (x : t.den) (p : List Nat) (k : Nat → AV → Option R) (r : R), subD t x p k = some r → ∃ off u, Sub (.d t x) p off u ∧ k off u = some r
  | .pair a b, x, [], k, r, h => ⟨0, _, .here, by simpa [subD] using h⟩
  | .pair a b, x, 0 :: p, k, r, h => by
    simp only [subD] at h
    obtain ⟨off, u, h1, h2⟩ := subD_some a x.1 p k r h
    exact ⟨off, u, .dH h1, h2⟩
  | .pair a b, x, (i + 1) :: p, k, r, h => by
    simp only [subD] at h
    obtain ⟨off, u, h1, h2⟩ := subD_some b x.2 (i :: p) _ r h
    exact ⟨_, u, .dT h1, h2⟩
  | .arr n e, xs, [], k, r, h => ⟨0, _, .here, by simpa [subD] using h⟩
  | .arr n e, xs, i :: p, k, r, h => by
    simp only [subD] at h
    obtain ⟨y, hy, h⟩ := bind_some h
    obtain ⟨off, u, h1, h2⟩ := subD_some e y p _ r h
    exact ⟨_, u, .arr hy h1, h2⟩
  | .int _, x, [], k, r, h => ⟨0, _, .here, by simpa [subD] using h⟩
  | .bool, x, [], k, r, h => ⟨0, _, .here, by simpa [subD] using h⟩
  | .str, x, [], k, r, h => ⟨0, _, .here, by simpa [subD] using h⟩
  | .flt _, x, [], k, r, h => ⟨0, _, .here, by simpa [subD] using h⟩
  | .slice _, x, [], k, r, h => ⟨0, _, .here, by simpa [subD] using h⟩
  | .unit, x, [], k, r, h => ⟨0, _, .here, by simpa [subD] using h⟩
  | .int _, x, _ :: _, k, r, h => by simp [subD] at h
  | .bool, x, _ :: _, k, r, h => by simp [subD] at h
  | .str, x, _ :: _, k, r, h => by simp [subD] at h
  | .flt _, x, _ :: _, k, r, h => by simp [subD] at h
  | .slice _, x, _ :: _, k, r, h => by simp [subD] at h
  | .unit, x, _ :: _, k, r, h => by simp [subD] at h

theorem subA_some : ∀ (a : AV) (p : List Nat) (k : Nat → AV → Option R) (r : R), subA a p k = some r → ∃ off u, Sub a p off u ∧ k off u = some r
  | .d t x, p, k, r, h => by simp only [subA] at h; exact subD_some t x p k r h
  | .pr a b, [], k, r, h => ⟨0, _, .here, by simpa [subA] using h⟩
  | .pr a b, 0 :: p, k, r, h => by
    simp only [subA] at h
    obtain ⟨off, u, h1, h2⟩ := subA_some a p k r h
    exact ⟨off, u, .prH h1, h2⟩
  | .pr a b, (i + 1) :: p, k, r, h => by
    simp only [subA] at h
    obtain ⟨off, u, h1, h2⟩ := subA_some b (i :: p) _ r h
    exact ⟨_, u, .prT h1, h2⟩
  | .undef, [], k, r, h => ⟨0, _, .here, by simpa [subA] using h⟩
  | .ip _ _, [], k, r, h => ⟨0, _, .here, by simpa [subA] using h⟩
  | .op _ _ _, [], k, r, h => ⟨0, _, .here, by simpa [subA] using h⟩
  | .os _ _, [], k, r, h => ⟨0, _, .here, by simpa [subA] using h⟩
  | .oe _ _ _, [], k, r, h => ⟨0, _, .here, by simpa [subA] using h⟩
  | .ow _ _ _ _, [], k, r, h => ⟨0, _, .here, by simpa [subA] using h⟩
  | .nils, [], k, r, h => ⟨0, _, .here, by simpa [subA] using h⟩
  | .emp, [], k, r, h => ⟨0, _, .here, by simpa [subA] using h⟩
  | .tup _, [], k, r, h => ⟨0, _, .here, by simpa [subA] using h⟩
  | .fn _ _ _, [], k, r, h => ⟨0, _, .here, by simpa [subA] using h⟩
  | .nilfn, [], k, r, h => ⟨0, _, .here, by simpa [subA] using h⟩
  | .iface _ _, [], k, r, h => ⟨0, _, .here, by simpa [subA] using h⟩
  | .nilif, [], k, r, h => ⟨0, _, .here, by simpa [subA] using h⟩
  | .nilp, [], k, r, h => ⟨0, _, .here, by simpa [subA] using h⟩
  | .ref _, [], k, r, h => ⟨0, _, .here, by simpa [subA] using h⟩
  | .undef, _ :: _, k, r, h => by simp [subA] at h
  | .ip _ _, _ :: _, k, r, h => by simp [subA] at h
  | .op _ _ _, _ :: _, k, r, h => by simp [subA] at h
  | .os _ _, _ :: _, k, r, h => by simp [subA] at h
  | .oe _ _ _, _ :: _, k, r, h => by simp [subA] at h
  | .ow _ _ _ _, _ :: _, k, r, h => by simp [subA] at h
  | .nils, _ :: _, k, r, h => by simp [subA] at h
  | .emp, _ :: _, k, r, h => by simp [subA] at h
  | .tup _, _ :: _, k, r, h => by simp [subA] at h
  | .fn _ _ _, _ :: _, k, r, h => by simp [subA] at h
  | .nilfn, _ :: _, k, r, h => by simp [subA] at h
  | .iface _ _, _ :: _, k, r, h => by simp [subA] at h
  | .nilif, _ :: _, k, r, h => by simp [subA] at h
  | .nilp, _ :: _, k, r, h => by simp [subA] at h
  | .ref _, _ :: _, k, r, h => by simp [subA] at h

def mkL (a b : Ty) (a' : AV) (y : b.den) : AV := match a'.asD a with | some x => .d (.pair a b) (x, y) | none => .pr a' (.d b y)
def mkR (a b : Ty) (x : a.den) (b' : AV) : AV := match b'.asD b with | some y => .d (.pair a b) (x, y) | none => .pr (.d a x) b'

def setD : (t : Ty) → t.den → List Nat → AV → (Nat → AV → Option R) → Option R
  | .pair a b, x, 0 :: p, u, k => setD a x.1 p u (fun off a' => k off (mkL a b a' x.2))
  | .pair a b, x, (i + 1) :: p, u, k => setD b x.2 (i :: p) u (fun off b' => k (a.size + off) (mkR a b x.1 b'))
  | .arr n e, xs, i :: p, u, k => (xs[i]?).bind fun y => setD e y p u (fun off e' => match e'.asD e with | some y' => k (i * e.size + off) (.d (.arr n e) (xs.set i y')) | none => none)
  | t, _, [], u, k => bif Nat.beq u.asize t.size then k 0 u else none
  | _, _, _ :: _, _, _ => none

def setA : AV → List Nat → AV → (Nat → AV → Option R) → Option R
  | .d t x, p, u, k => setD t x p u k
  | .pr a b, 0 :: p, u, k => setA a p u (fun off a' => k off (.pr a' b))
  | .pr a b, (i + 1) :: p, u, k => setA b (i :: p) u (fun off b' => k (a.asize + off) (.pr a b'))
  | a, [], u, k => bif Nat.beq u.asize a.asize then k 0 u else none
  | _, _ :: _, _, _ => none

theorem setD_nil (t : Ty) (x : t.den) (u : AV) (k : Nat → AV → Option R) (r : R) (h : setD t x [] u k = some r) : ∃ off v', SetA (.d t x) [] off u v' ∧ k off v' = some r := by
  have h' : (bif Nat.beq u.asize t.size then k 0 u else none) = some r := by
    cases t <;> simpa only [setD] using h
  cases hb : Nat.beq u.asize t.size with
  | false => rw [hb] at h'; cases h'
  | true => rw [hb] at h'; exact ⟨0, u, .here (by simpa [AV.asize] using Nat.eq_of_beq_eq_true hb), h'⟩

theorem setD_some : ∀ (t : Ty) (x : t.den) (p : List Nat) (u : AV) (k : Nat → AV → Option R) (r : R), setD t x p u k = some r → ∃ off v', SetA (.d t x) p off u v' ∧ k off v' = some r
  | t, x, [], u, k, r, h => setD_nil t x u k r h
  | .pair a b, x, 0 :: p, u, k, r, h => by
    simp only [setD] at h
    obtain ⟨off, v', h1, h2⟩ := setD_some a x.1 p u _ r h
    unfold mkL at h2
    cases hd : v'.asD a with
    | none => rw [hd] at h2; exact ⟨off, _, .dHp h1, h2⟩
    | some y => rw [hd] at h2; rw [AV.asD_some hd] at h1; exact ⟨off, _, .dH h1, h2⟩
  | .pair a b, x, (i + 1) :: p, u, k, r, h => by
    simp only [setD] at h
    obtain ⟨off, v', h1, h2⟩ := setD_some b x.2 (i :: p) u _ r h
    unfold mkR at h2
    cases hd : v'.asD b with
    | none => rw [hd] at h2; exact ⟨_, _, .dTp h1, h2⟩
    | some y => rw [hd] at h2; rw [AV.asD_some hd] at h1; exact ⟨_, _, .dT h1, h2⟩
  | .arr n e, xs, i :: p, u, k, r, h => by
    simp only [setD] at h
    obtain ⟨y, hy, h⟩ := bind_some h
    obtain ⟨off, v', h1, h2⟩ := setD_some e y p u _ r h
    cases hd : v'.asD e with
    | none => simp only [hd] at h2; cases h2
    | some y' => simp only [hd] at h2; rw [AV.asD_some hd] at h1; exact ⟨_, _, .arr hy h1, h2⟩
  | .int _, x, _ :: _, u, k, r, h => by simp [setD] at h
  | .bool, x, _ :: _, u, k, r, h => by simp [setD] at h
  | .str, x, _ :: _, u, k, r, h => by simp [setD] at h
  | .flt _, x, _ :: _, u, k, r, h => by simp [setD] at h
  | .slice _, x, _ :: _, u, k, r, h => by simp [setD] at h
  | .unit, x, _ :: _, u, k, r, h => by simp [setD] at h

theorem setA_nil (a u : AV) (k : Nat → AV → Option R) (r : R) (h : setA a [] u k = some r) : ∃ off v', SetA a [] off u v' ∧ k off v' = some r := by
  cases a
  case d t x => simp only [setA] at h; exact setD_nil t x u k r h
  all_goals
    simp only [setA] at h
    revert h
    cases hb : Nat.beq u.asize _ with
    | false => intro h; cases h
    | true => intro h; exact ⟨0, u, .here (Nat.eq_of_beq_eq_true hb), h⟩

theorem setA_some : ∀ (a : AV) (p : List Nat) (u : AV) (k : Nat → AV → Option R) (r : R), setA a p u k = some r → ∃ off v', SetA a p off u v' ∧ k off v' = some r
  | a, [], u, k, r, h => setA_nil a u k r h
  | .d t x, i :: p, u, k, r, h => by simp only [setA] at h; exact setD_some t x _ u k r h
  | .pr a b, 0 :: p, u, k, r, h => by
    simp only [setA] at h
    obtain ⟨off, v', h1, h2⟩ := setA_some a p u _ r h
    exact ⟨off, _, .prH h1, h2⟩
  | .pr a b, (i + 1) :: p, u, k, r, h => by
    simp only [setA] at h
    obtain ⟨off, v', h1, h2⟩ := setA_some b (i :: p) u _ r h
    exact ⟨_, _, .prT h1, h2⟩
  | .undef, _ :: _, u, k, r, h => by simp [setA] at h
  | .ip _ _, _ :: _, u, k, r, h => by simp [setA] at h
  | .op _ _ _, _ :: _, u, k, r, h => by simp [setA] at h
  | .os _ _, _ :: _, u, k, r, h => by simp [setA] at h
  | .oe _ _ _, _ :: _, u, k, r, h => by simp [setA] at h
  | .ow _ _ _ _, _ :: _, u, k, r, h => by simp [setA] at h
  | .nils, _ :: _, u, k, r, h => by simp [setA] at h
  | .emp, _ :: _, u, k, r, h => by simp [setA] at h
  | .tup _, _ :: _, u, k, r, h => by simp [setA] at h
  | .fn _ _ _, _ :: _, u, k, r, h => by simp [setA] at h
  | .nilfn, _ :: _, u, k, r, h => by simp [setA] at h
  | .iface _ _, _ :: _, u, k, r, h => by simp [setA] at h
  | .nilif, _ :: _, u, k, r, h => by simp [setA] at h
  | .nilp, _ :: _, u, k, r, h => by simp [setA] at h
  | .ref _, _ :: _, u, k, r, h => by simp [setA] at h

end Go.Vm
namespace Go.Vm

universe u
variable {R : Type}

/-- a function as the executor sees it: from arguments and the objects handed in, to how it ends and the objects handed back -/
structure FnE where
  run : {R : Type} → List AV → LHp → (AEnd → LHp → Option R) → Option R

/-- a function without a body, as the executor sees it -/
structure ExtE where
  run : {R : Type} → List AV → (AV → Option R) → Option R

/-- a round of a loop over a function, as the executor sees it: the record's name, yield's arguments, the objects -/
structure RoundE where
  run : {R : Type} → Nat → List AV → LHp → (Bool → LHp → Option R) → Option R

structure Env where
  P : Program
  Γ : List (Nat × AV)
  ty : List (Nat × Ty)
  calls : List (Nat × FnE)
  exts : List (Nat × ExtE)
  round : Option RoundE := none

def lk {α : Type u} : List (Nat × α) → Nat → Option α
  | [], _ => none
  | (a, b) :: r, o => bif Nat.beq a o then some b else lk r o

theorem lk_mem {α : Type u} : ∀ {l : List (Nat × α)} {o : Nat} {b : α}, lk l o = some b → (o, b) ∈ l
  | [], _, _, h => by cases h
  | (a, c) :: r, o, b, h => by
    simp only [lk] at h
    cases hb : Nat.beq a o with
    | true => rw [hb] at h; cases h; rw [Nat.eq_of_beq_eq_true hb]; simp
    | false => rw [hb] at h; simp [lk_mem h]

def Env.gam (E : Env) : Nat → Option AV := lk E.Γ

def LSt.ev (E : Env) (s : LSt) : Operand → AV
  | .tmp t => s.fr.get t
  | .const v => constAV v
  | .global g => (match lk E.Γ g with | some v => v | none => .undef)
  | .func f => .fn (.func f) [] []

/-- what the program's table says of a type that is data -/
structure TyGood (P : Program) (t : TypeId) (τ : Ty) : Prop where
  info : ∃ i z, P.info? t = some i ∧ i.size = τ.size ∧ i.bytes ≤ 4096 ∧ i.zero = some z ∧ z.cells.toList = zcells τ
  und : ∃ d, P.underlying t = some d ∧ isAggD d = τ.isAgg

structure Env.OK (E : Env) : Prop where
  ty : ∀ p ∈ E.ty, TyGood E.P p.1 p.2

def tyS? (P : Program) (t : TypeId) : Option (Nat × Bool) :=
  match P.info? t with
  | some i => (match P.underlying t with | some d => some (i.size, isAggD d) | none => none)
  | none => none
theorem tyS_some {P : Program} {t : TypeId} {n : Nat} {b : Bool} (h : tyS? P t = some (n, b)) : TyS P t n b := by
  unfold tyS? at h
  split at h
  · rename_i i hi
    split at h
    · rename_i d hd
      cases h
      exact ⟨⟨i, hi, rfl⟩, ⟨d, hd, rfl⟩⟩
    · cases h
  · cases h

/-- is it a type of n cells, an aggregate or not? -/
def tyIs (P : Program) (t : TypeId) (n : Nat) (b : Bool) : Bool :=
  match tyS? P t with | some (m, c) => Nat.beq m n && (bif c then b else !b) | none => false
theorem tyIs_spec {P : Program} {t : TypeId} {n : Nat} {b : Bool} (h : tyIs P t n b = true) : TyS P t n b := by
  unfold tyIs at h
  split at h
  · rename_i m c hc
    simp only [Bool.and_eq_true] at h
    obtain ⟨h1, h2⟩ := h
    rw [← Nat.eq_of_beq_eq_true h1]
    have : c = b := by cases c <;> cases b <;> simp_all
    rw [← this]
    exact tyS_some hc
  · cases h
/-- … of n cells -/
def tyN (P : Program) (t : TypeId) (n : Nat) : Bool := match tyS? P t with | some (m, _) => Nat.beq m n | none => false
theorem tyN_spec {P : Program} {t : TypeId} {n : Nat} (h : tyN P t n = true) : ∃ b, TyS P t n b := by
  unfold tyN at h
  split at h
  · rename_i m c hc; rw [← Nat.eq_of_beq_eq_true h]; exact ⟨c, tyS_some hc⟩
  · cases h

def slIs (P : Program) (t : TypeId) (n : Nat) : Bool :=
  match P.underlying t with
  | some (.slice e) => (match P.info? e with | some i => Nat.beq i.size n | none => false)
  | _ => false
theorem slIs_spec {P : Program} {t : TypeId} {n : Nat} (h : slIs P t n = true) : SlT P t n := by
  unfold slIs at h
  split at h
  · rename_i e he
    split at h
    · rename_i i hi; exact ⟨e, i, he, hi, Nat.eq_of_beq_eq_true h⟩
    · cases h
  · cases h

def arIs (P : Program) (t : TypeId) (m n : Nat) : Bool :=
  match P.underlying t with
  | some (.array l e) => Nat.beq l m && (match P.info? e with | some i => Nat.beq i.size n | none => false)
  | _ => false
theorem arIs_spec {P : Program} {t : TypeId} {m n : Nat} (h : arIs P t m n = true) : ArT P t m n := by
  unfold arIs at h
  split at h
  · rename_i l e he
    simp only [Bool.and_eq_true] at h
    obtain ⟨h1, h2⟩ := h
    split at h2
    · rename_i i hi; rw [← Nat.eq_of_beq_eq_true h1]; exact ⟨e, i, he, hi, Nat.eq_of_beq_eq_true h2⟩
    · cases h2
  · cases h

/-- a slice type whose elements are data -/
def elT? (E : Env) (t : TypeId) : Option (TypeId × Ty) :=
  match E.P.underlying t with
  | some (.slice T) => (match lk E.ty T with | some e => bif Nat.blt 0 e.size then some (T, e) else none | none => none)
  | _ => none
theorem elT_some {E : Env} (hE : E.OK) {t T : TypeId} {e : Ty} (h : elT? E t = some (T, e)) : ElT E.P t T e := by
  unfold elT? at h
  split at h
  · rename_i T' hT
    split at h
    · rename_i e' he
      cases hb : Nat.blt 0 e'.size with
      | false => rw [hb] at h; cases h
      | true =>
        rw [hb] at h
        cases h
        obtain ⟨i, z, h1, h2, h3, h4, h5⟩ := (hE.ty _ (lk_mem he)).info
        exact ⟨hT, ⟨i, z, h1, h2, h3, h4, h5⟩, Nat.le_of_ble_eq_true hb⟩
    · cases h
  · cases h

theorem ev_eq {E : Env} {C : Ctx} (hΓ : C.Γ = E.gam) (s : LSt) (x : Operand) : s.toA.ev C x = s.ev E x := by
  cases x with
  | tmp t => rfl
  | const v => rfl
  | global g =>
    simp only [ASt.ev, LSt.ev, hΓ, Env.gam]
    cases lk E.Γ g <;> rfl
  | func f => rfl

def E1.eff (e : E1) (dst : Option Nat) : Eff := ⟨dst, e.av, e.rd, e.wr⟩
def LSt.pv (s : LSt) (a : AV) : E1 := ⟨a, [], [], s.nx⟩
def LSt.pr (s : LSt) (a : AV) (rd : List Nat) : E1 := ⟨a, rd, [], s.nx⟩

def Does (E : Env) (C : Ctx) (o : Oper) (s : LSt) (k : E1 → Option R) (r : R) : Prop := ∃ e : E1, k e = some r ∧ OpW E.P C o (e.eff o.dst) s.toA

theorem Does.of {E : Env} {C : Ctx} {o : Oper} {s : LSt} {k : E1 → Option R} {r : R} (e : E1) (hk : k e = some r) (h : OpOK E.P C o (e.eff o.dst) s.toA) : Does E C o s k r := ⟨e, hk, h.w⟩

/-! ### computing -/

def intBin (bop : BinOp) (k : IntKind) (a b : Int) : Option AV :=
  match bop with
  | .add => some (.d (.int k) (k.wrap (a + b)))
  | .sub => some (.d (.int k) (k.wrap (a - b)))
  | .mul => some (.d (.int k) (k.wrap (a * b)))
  | .and => some (.d (.int k) (k.wrap (BitVec.ofInt k.bits a &&& BitVec.ofInt k.bits b).toNat))
  | .or => some (.d (.int k) (k.wrap (BitVec.ofInt k.bits a ||| BitVec.ofInt k.bits b).toNat))
  | .xor => some (.d (.int k) (k.wrap (BitVec.ofInt k.bits a ^^^ BitVec.ofInt k.bits b).toNat))
  | .andNot => some (.d (.int k) (k.wrap (BitVec.ofInt k.bits a &&& ~~~ BitVec.ofInt k.bits b).toNat))
  | .eql => some (.d .bool (a == b))
  | .neq => some (.d .bool (a != b))
  | .lss => some (.d .bool (decide (a < b)))
  | .leq => some (.d .bool (decide (a ≤ b)))
  | .gtr => some (.d .bool (decide (a > b)))
  | .geq => some (.d .bool (decide (a ≥ b)))
  | _ => none

def fltBin (bop : BinOp) (k : FloatKind) (a b : Nat) : Option AV :=
  match bop with
  | .add => some (.d (.flt k) (fop .add k a b))
  | .sub => some (.d (.flt k) (fop .sub k a b))
  | .mul => some (.d (.flt k) (fop .mul k a b))
  | .quo => some (.d (.flt k) (fop .quo k a b))
  | .eql => some (.d .bool (k.format.order a b == some .eq))
  | .neq => some (.d .bool (k.format.order a b != some .eq))
  | .lss => some (.d .bool (k.format.order a b == some .lt))
  | .leq => some (.d .bool (k.format.order a b == some .lt || k.format.order a b == some .eq))
  | .gtr => some (.d .bool (k.format.order a b == some .gt))
  | .geq => some (.d .bool (k.format.order a b == some .gt || k.format.order a b == some .eq))
  | _ => none

def isIf (P : Program) (t : TypeId) : Bool := match P.underlying t with | some (.interface _) => true | _ => false
theorem isIf_spec {P : Program} {t : TypeId} (h : isIf P t = true) : ∃ m, P.underlying t = some (.interface m) := by
  unfold isIf at h
  split at h
  · rename_i m hm; exact ⟨m, hm⟩
  · cases h

def isBo (P : Program) (t : TypeId) : Bool := match P.underlying t with | some .bool => true | _ => false
theorem isBo_spec {P : Program} {t : TypeId} (h : isBo P t = true) : P.underlying t = some .bool := by
  unfold isBo at h
  split at h
  · rename_i hm; exact hm
  · cases h

section
variable {P : Program} {C : Ctx} {s : ASt} {dst : Option Tmp} {ty : TypeId} {pos : String} {aft : Array Edge} {gd : Option (Nat × Bool)}
theorem run_eqbool {xt : TypeId} (ht : P.underlying xt = some .bool) (a b : Bool) (w : World) : (Op.equal xt (.bool a) (.bool b)).run P w = .ok (a == b) w := by
  show (Op.equalIn (9999 + 1) xt _ _).run P w = _
  rw [Op.equalIn.eq_2]
  simp only [Sem.run_bind, run_underlying ht, Result.andThen_ok]
  rfl
theorem ok_beq {xt yt : TypeId} {x y : Operand} {a b : Bool} (hx : s.ev C x = .d .bool a) (hy : s.ev C y = .d .bool b) (ht : P.underlying xt = some .bool) :
    OpOK P C ⟨dst, .binOp .eql xt x y yt, ty, pos, aft, gd⟩ ⟨dst, .d .bool (a == b), [], []⟩ s :=
  ok_pure fun w im μ hp ρ h => by
    have e1 := scal_eq (u := .bool a) (by rw [hx]; rfl) (h x (by simp [Op.operands]))
    have e2 := scal_eq (u := .bool b) (by rw [hy]; rfl) (h y (by simp [Op.operands]))
    have hb : binOp .eql xt (.bool a) (.bool b) = (do pure (.bool (← Op.equal xt (.bool a) (.bool b)))) := rfl
    have hg : eqGuard .eql xt x y (.bool a) (.bool b) = pure () := by simp [eqGuard]
    refine ⟨.bool (a == b), ?_, constAV_rep _ _ _ _ (.bool (a == b))⟩
    simp only [execOp, e1, e2, hg, hb]
    simp [run_eqbool ht]
theorem ok_bne {xt yt : TypeId} {x y : Operand} {a b : Bool} (hx : s.ev C x = .d .bool a) (hy : s.ev C y = .d .bool b) (ht : P.underlying xt = some .bool) :
    OpOK P C ⟨dst, .binOp .neq xt x y yt, ty, pos, aft, gd⟩ ⟨dst, .d .bool (!(a == b)), [], []⟩ s :=
  ok_pure fun w im μ hp ρ h => by
    have e1 := scal_eq (u := .bool a) (by rw [hx]; rfl) (h x (by simp [Op.operands]))
    have e2 := scal_eq (u := .bool b) (by rw [hy]; rfl) (h y (by simp [Op.operands]))
    have hb : binOp .neq xt (.bool a) (.bool b) = (do pure (.bool (!(← Op.equal xt (.bool a) (.bool b))))) := rfl
    have hg : eqGuard .neq xt x y (.bool a) (.bool b) = pure () := by simp [eqGuard]
    refine ⟨.bool (!(a == b)), ?_, constAV_rep _ _ _ _ (.bool (!(a == b)))⟩
    simp only [execOp, e1, e2, hg, hb]
    simp [run_eqbool ht]
end

theorem ok_sleq {P : Program} {C : Ctx} {s : ASt} {dst : Option Tmp} {ty : TypeId} {pos : String} {aft : Array Edge} {gd : Option (Nat × Bool)} {x y : Operand} {xt yt T : TypeId} {e : Ty} {xs : List e.den} {av : AV} (hx : s.ev C x = av) (hs : Src s.hp av e xs) (hne : xs ≠ []) (hy : s.ev C y = .nils) (ht : P.underlying xt = some (.slice T)) (b : Bool) :
    OpOK P C ⟨dst, .binOp (bif b then .neq else .eql) xt x y yt, ty, pos, aft, gd⟩ ⟨dst, .d .bool b, av.objs, []⟩ s :=
  ok_read av.objs fun w im μ hp ρ h hk hob => by
    obtain ⟨ad, cap, hv, hcap, hsr⟩ := (hs.hp hk).sound (hx ▸ h x (by cases b <;> simp [Op.operands])) hob
    obtain ⟨hr, hag⟩ := hy ▸ h y (by cases b <;> simp [Op.operands])
    simp only [RepA] at hr
    have e2 := slice_of_cells hr hag
    obtain ⟨bb, off, cs, rfl, _⟩ := hsr.resolve_left hne
    have he : (Op.equal xt (.slice (some ⟨bb, off, none⟩) xs.length cap) (.slice none 0 0)).run P w = .ok false w := by
      show (Op.equalIn (9999 + 1) xt _ _).run P w = _
      rw [Op.equalIn.eq_2]
      simp only [Sem.run_bind, run_underlying ht, Result.andThen_ok]
      rfl
    cases b with
    | false =>
      have hb : binOp .eql xt (.slice (some ⟨bb, off, none⟩) xs.length cap) (.slice none 0 0) = (do pure (.bool (← Op.equal xt (.slice (some ⟨bb, off, none⟩) xs.length cap) (.slice none 0 0)))) := rfl
      have hg : eqGuard .eql xt x y (.slice (some ⟨bb, off, none⟩) xs.length cap) (.slice none 0 0) = pure () := rfl
      refine ⟨.bool false, w, ?_, rfl, rfl, rfl, rfl, constAV_rep _ _ _ _ (.bool false)⟩
      simp only [cond_false, execOp, hv, e2, hg, hb]
      simp [he]
    | true =>
      have hb : binOp .neq xt (.slice (some ⟨bb, off, none⟩) xs.length cap) (.slice none 0 0) = (do pure (.bool (!(← Op.equal xt (.slice (some ⟨bb, off, none⟩) xs.length cap) (.slice none 0 0))))) := rfl
      have hg : eqGuard .neq xt x y (.slice (some ⟨bb, off, none⟩) xs.length cap) (.slice none 0 0) = pure () := rfl
      refine ⟨.bool true, w, ?_, rfl, rfl, rfl, rfl, constAV_rep _ _ _ _ (.bool true)⟩
      simp only [cond_true, execOp, hv, e2, hg, hb]
      simp [he]

theorem ok_sleq_nil {P : Program} {C : Ctx} {s : ASt} {dst : Option Tmp} {ty : TypeId} {pos : String} {aft : Array Edge} {gd : Option (Nat × Bool)} {x y : Operand} {xt yt T : TypeId} (hx : s.ev C x = .nils) (hy : s.ev C y = .nils) (ht : P.underlying xt = some (.slice T)) (b : Bool) :
    OpOK P C ⟨dst, .binOp (bif b then .eql else .neq) xt x y yt, ty, pos, aft, gd⟩ ⟨dst, .d .bool b, [], []⟩ s :=
  ok_pure fun w im μ hp ρ h => by
    obtain ⟨hr1, hag1⟩ := hx ▸ h x (by cases b <;> simp [Op.operands])
    obtain ⟨hr, hag⟩ := hy ▸ h y (by cases b <;> simp [Op.operands])
    simp only [RepA] at hr hr1
    have e1 := slice_of_cells hr1 hag1
    have e2 := slice_of_cells hr hag
    have he : (Op.equal xt (.slice none 0 0) (.slice none 0 0)).run P w = .ok true w := by
      show (Op.equalIn (9999 + 1) xt _ _).run P w = _
      rw [Op.equalIn.eq_2]
      simp only [Sem.run_bind, run_underlying ht, Result.andThen_ok]
      rfl
    cases b with
    | true =>
      have hb : binOp .eql xt (.slice none 0 0) (.slice none 0 0) = (do pure (.bool (← Op.equal xt (.slice none 0 0) (.slice none 0 0)))) := rfl
      have hg : eqGuard .eql xt x y (.slice none 0 0) (.slice none 0 0) = pure () := rfl
      refine ⟨.bool true, ?_, constAV_rep _ _ _ _ (.bool true)⟩
      simp only [cond_true, execOp, e1, e2, hg, hb]
      simp [he]
    | false =>
      have hb : binOp .neq xt (.slice none 0 0) (.slice none 0 0) = (do pure (.bool (!(← Op.equal xt (.slice none 0 0) (.slice none 0 0))))) := rfl
      have hg : eqGuard .neq xt x y (.slice none 0 0) (.slice none 0 0) = pure () := rfl
      refine ⟨.bool false, ?_, constAV_rep _ _ _ _ (.bool false)⟩
      simp only [cond_false, execOp, e1, e2, hg, hb]
      simp [he]

/-! ### structs of whole numbers, against each other -/

def eqI : (τ : Ty) → τ.den → τ.den → Bool
  | .int _, x, y => decide ((x : Int) = y)
  | .pair a b, x, y => eqI a x.1 y.1 && eqI b x.2 y.2
  | _, _, _ => true

def chkI (P : Program) : List Field → Ty → Nat → Bool
  | [], .unit, _ => true
  | f :: fs, .pair (.int _) b, off => decide (f.name ≠ "_") && Nat.beq f.offset off && (match P.underlying f.type with | some (.int _) => true | _ => false) && chkI P fs b (off + 1)
  | _, _, _ => false

theorem eqFields_run {P : Program} {w : World} {im : Nat → Prop} {xs ys : Array Value} : ∀ (fs : List Field) (τ : Ty) (off : Nat) (cs ds : List Value) (x y : τ.den), chkI P fs τ off = true → RepD w im τ cs x → RepD w im τ ds y → xs.toList.drop off = cs → ys.toList.drop off = ds →
    (Op.eqFields 9999 xs ys fs).run P w = .ok (eqI τ x y) w
  | [], τ, off, cs, ds, x, y, h, h1, h2, h3, h4 => by
    cases τ <;> simp [chkI] at h
    simp [Op.eqFields, eqI]
  | f :: fs, τ, off, cs, ds, x, y, h, h1, h2, h3, h4 => by
    cases τ with
    | pair a b =>
      cases a with
      | int k =>
        simp only [chkI, Bool.and_eq_true, decide_eq_true_eq] at h
        obtain ⟨⟨⟨g1, g2⟩, g3⟩, g4⟩ := h
        have hof := Nat.eq_of_beq_eq_true g2
        obtain ⟨c1, c2, rfl, rfl, hb1⟩ := h1
        obtain ⟨d1, d2, rfl, rfl, hb2⟩ := h2
        have hx : xs[off]? = some (.int k x.1) := by
          have := congrArg (fun l => l[0]?) h3
          simpa using this
        have hy : ys[off]? = some (.int k y.1) := by
          have := congrArg (fun l => l[0]?) h4
          simpa using this
        have hx2 : xs.toList.drop (off + 1) = c2 := by rw [← List.drop_drop, h3]; rfl
        have hy2 : ys.toList.drop (off + 1) = d2 := by rw [← List.drop_drop, h4]; rfl
        split at g3
        · rename_i k' hk'
          have hag : (isAgg f.type).run P w = .ok false w := by simp [isAgg, run_underlying hk']
          have hp1 : (part f.type xs f.offset).run P w = .ok (.int k x.1) w := by simp [part, hag, hof, hx]
          have hp2 : (part f.type ys f.offset).run P w = .ok (.int k y.1) w := by simp [part, hag, hof, hy]
          have he := run_equalIn_int (P := P) w 9998 f.type k k' x.1 y.1 hk'
          have ih := eqFields_run fs b (off + 1) c2 d2 x.2 y.2 g4 hb1 hb2 hx2 hy2
          simp only [Op.eqFields, if_pos g1, Sem.run_bind, hp1, hp2, Result.andThen_ok, he, eqI]
          by_cases hxy : x.1 = y.1
          · have h1 : ((x.1 : Int) == y.1) = true := by simpa using hxy
            simp only [h1, Bool.not_true, Bool.false_eq_true, if_false, ih]
            rw [show decide ((x.1 : Int) = y.1) = true from decide_eq_true hxy]
            rfl
          · have h1 : ((x.1 : Int) == y.1) = false := by rw [← Bool.not_eq_true]; intro hh; exact hxy (by simpa using hh)
            simp only [h1, Bool.not_false, if_true, Sem.run_pure]
            rw [show decide ((x.1 : Int) = y.1) = false from decide_eq_false hxy]
            rfl
        · cases g3
      | _ => simp [chkI] at h
    | _ => simp [chkI] at h

def stI (P : Program) (t : TypeId) (τ : Ty) : Bool :=
  match P.underlying t with
  | some (.struct fs) => chkI P fs.toList τ 0 && !(P.stoodInHeld t) && !(P.eqGuardType P.depth t) && τ.isAgg
  | _ => false

theorem ok_steq {P : Program} {C : Ctx} {s : ASt} {dst : Option Tmp} {ty : TypeId} {pos : String} {aft : Array Edge} {gd : Option (Nat × Bool)} {x y : Operand} {xt yt : TypeId} {τ : Ty} {a b : τ.den} (hx : s.ev C x = .d τ a) (hy : s.ev C y = .d τ b) (ht : stI P xt τ = true) (ng : Bool) :
    OpOK P C ⟨dst, .binOp (bif ng then .neq else .eql) xt x y yt, ty, pos, aft, gd⟩ ⟨dst, .d .bool (bif ng then !(eqI τ a b) else eqI τ a b), [], []⟩ s :=
  ok_pure fun w im μ hp ρ h => by
    unfold stI at ht
    split at ht
    · rename_i fs hu
      simp only [Bool.and_eq_true, Bool.not_eq_true'] at ht
      obtain ⟨⟨⟨g1, g2⟩, g3⟩, g4⟩ := ht
      obtain ⟨hr1, hag1⟩ := hx ▸ h x (by cases ng <;> simp [Op.operands])
      obtain ⟨hr2, hag2⟩ := hy ▸ h y (by cases ng <;> simp [Op.operands])
      simp only [RepA] at hr1 hr2
      have hf : P.fieldsOf xt = fs := by unfold Program.fieldsOf; rw [hu]
      obtain ⟨xs, e1⟩ : ∃ xs, ρ x = .agg xs := by
        generalize ρ x = v at hag1
        cases v <;> simp_all [vIsAgg, AV.isAgg]
      obtain ⟨ys, e2⟩ : ∃ ys, ρ y = .agg ys := by
        generalize ρ y = v at hag2
        cases v <;> simp_all [vIsAgg, AV.isAgg]
      rw [e1] at hr1; rw [e2] at hr2
      have hrun := eqFields_run (P := P) (xs := xs) (ys := ys) fs.toList τ 0 _ _ a b g1 hr1 hr2 rfl rfl
      have heq : (Op.equalIn 10000 xt (.agg xs) (.agg ys)).run P w = .ok (eqI τ a b) w := by
        rw [run_equalIn_struct w 9999 xt xs ys (by rw [hf]; exact hu) g2, hf]
        exact hrun
      have hg := fun op => run_eqGuard_agg (P := P) w op xt x y xs ys g3
      cases ng with
      | false =>
        refine ⟨.bool (eqI τ a b), ?_, constAV_rep _ _ _ _ (.bool _)⟩
        have := run_eql_struct (P := P) w xt xs ys
        rw [heq] at this
        simp only [Result.andThen_ok] at this
        simp only [cond_false, execOp, e1, e2]
        simp [hg, this]
      | true =>
        refine ⟨.bool (!(eqI τ a b)), ?_, constAV_rep _ _ _ _ (.bool _)⟩
        have := run_neq_struct (P := P) w xt xs ys
        rw [heq] at this
        simp only [Result.andThen_ok] at this
        simp only [cond_true, execOp, e1, e2]
        simp [hg, this]
    · cases ht

def stEq (E : Env) (bop : BinOp) (xt : TypeId) (τ : Ty) (a : τ.den) (v : AV) (s : LSt) (k : E1 → Option R) : Option R :=
  match v.asD τ with
  | some b => bif stI E.P xt τ then (match bop with | .eql => k (s.pv (.d .bool (eqI τ a b))) | .neq => k (s.pv (.d .bool (!(eqI τ a b)))) | _ => none) else none
  | none => none

theorem stEq_ok {E : Env} {C : Ctx} {s : LSt} {k : E1 → Option R} {r : R} {dst : Option Tmp} {ty : TypeId} {pos : String} {aft : Array Edge} {gd : Option (Nat × Bool)} (hΓ : C.Γ = E.gam) {bop : BinOp} {xt yt : TypeId} {x y : Operand} {τ : Ty} {a : τ.den} (hx : s.ev E x = .d τ a) (h : stEq E bop xt τ a (s.ev E y) s k = some r) : Does E C ⟨dst, .binOp bop xt x y yt, ty, pos, aft, gd⟩ s k r := by
  unfold stEq at h
  have ex := ev_eq hΓ s x
  have ey := ev_eq hΓ s y
  rw [hx] at ex
  split at h
  · rename_i b hb
    rw [AV.asD_some hb] at ey
    cases ht : stI E.P xt τ with
    | false => rw [ht] at h; cases h
    | true =>
      rw [ht] at h
      simp only [cond_true] at h
      split at h
      · exact .of _ h (ok_steq ex ey ht false)
      · exact .of _ h (ok_steq ex ey ht true)
      · cases h
  · cases h

def slNil (E : Env) (bop : BinOp) (xt : TypeId) (a : AV) (s : LSt) (k : E1 → Option R) : Option R :=
  match E.P.underlying xt with
  | some (.slice _) =>
    (match a with
    | .nils => (match bop with | .eql => k (s.pv (.d .bool true)) | .neq => k (s.pv (.d .bool false)) | _ => none)
    | a =>
      (match srcA s.hp a none with
      | some ⟨_, _ :: _⟩ => (match bop with | .eql => k (s.pr (.d .bool false) a.objs) | .neq => k (s.pr (.d .bool true) a.objs) | _ => none)
      | _ => none))
  | _ => none

theorem slNil_ok {E : Env} {C : Ctx} {s : LSt} {k : E1 → Option R} {r : R} {dst : Option Tmp} {ty : TypeId} {pos : String} {aft : Array Edge} {gd : Option (Nat × Bool)} (hΓ : C.Γ = E.gam) {bop : BinOp} {xt yt : TypeId} {x y : Operand} (hy : s.ev E y = .nils) (h : slNil E bop xt (s.ev E x) s k = some r) : Does E C ⟨dst, .binOp bop xt x y yt, ty, pos, aft, gd⟩ s k r := by
  unfold slNil at h
  have ex := ev_eq hΓ s x
  have ey := ev_eq hΓ s y
  rw [hy] at ey
  split at h
  · rename_i T hT
    split at h
    · rename_i hx
      rw [hx] at ex
      split at h
      · exact .of _ h (ok_sleq_nil ex ey hT true)
      · exact .of _ h (ok_sleq_nil ex ey hT false)
      · cases h
    · split at h
      · rename_i hs
        split at h
        · exact .of _ h (ok_sleq ex (srcA_some hs) (by simp) ey hT false)
        · exact .of _ h (ok_sleq ex (srcA_some hs) (by simp) ey hT true)
        · cases h
      · cases h
  · cases h

def opBin (E : Env) (bop : BinOp) (xt : TypeId) (x y : Operand) (s : LSt) (k : E1 → Option R) : Option R :=
  match s.ev E x, s.ev E y with
  | .d (.int k1) a, .d (.int k2) b =>
    (match bop with
    | .shl => (shl k1 a b).bind fun z => k (s.pv (.d (.int k1) z))
    | .shr => (shr k1 a b).bind fun z => k (s.pv (.d (.int k1) z))
    | .quo => if k1 = k2 then (quo k1 a b).bind fun z => k (s.pv (.d (.int k1) z)) else none
    | .rem => if k1 = k2 then (rem a b).bind fun z => k (s.pv (.d (.int k1) z)) else none
    | bop => if k1 = k2 then (match intBin bop k1 a b with | some v => k (s.pv v) | none => none) else none)
  | .d .bool a, .d .bool b =>
    (match bop with
    | .eql => bif isBo E.P xt then k (s.pv (.d .bool (a == b))) else none
    | .neq => bif isBo E.P xt then k (s.pv (.d .bool (!(a == b)))) else none
    | _ => none)
  | .d .str a, .d .str b =>
    (match bop with
    | .eql => k (s.pv (.d .bool (a == b)))
    | .neq => k (s.pv (.d .bool (!(a == b))))
    | .add => (strcat a b).bind fun z => k (s.pv (.d .str z))
    | _ => none)
  | .d (.flt k1) a, .d (.flt k2) b => if k1 = k2 then (match fltBin bop k1 a b with | some v => k (s.pv v) | none => none) else none
  | .iface _ (.d (.int _) _), .nilif => (match bop, y with | .neq, .const .nilIface => bif isIf E.P xt then k (s.pv (.d .bool true)) else none | _, _ => none)
  | .nilif, .nilif => (match bop, y with | .neq, .const .nilIface => bif isIf E.P xt then k (s.pv (.d .bool false)) else none | _, _ => none)
  | a, .nils => slNil E bop xt a s k
  | .d (.pair a b) z, v => stEq E bop xt (.pair a b) z v s k
  | _, _ => none

section
variable {E : Env} {C : Ctx} {s : LSt} {k : E1 → Option R} {r : R} {dst : Option Tmp} {ty : TypeId} {pos : String} {aft : Array Edge} {gd : Option (Nat × Bool)}

theorem opBin_ok (hΓ : C.Γ = E.gam) {bop : BinOp} {xt yt : TypeId} {x y : Operand} (h : opBin E bop xt x y s k = some r) : Does E C ⟨dst, .binOp bop xt x y yt, ty, pos, aft, gd⟩ s k r := by
  unfold opBin at h
  have ex := ev_eq hΓ s x
  have ey := ev_eq hΓ s y
  split at h
  · rename_i k1 a k2 b hx hy
    rw [hx] at ex; rw [hy] at ey
    split at h
    · obtain ⟨z, hz, h⟩ := bind_some h
      exact .of _ h (ok_shlM ex ey hz)
    · obtain ⟨z, hz, h⟩ := bind_some h
      exact .of _ h (ok_shrM ex ey hz)
    · split at h
      · rename_i he; subst he
        obtain ⟨z, hz, h⟩ := bind_some h
        exact .of _ h (ok_quoM ex ey hz)
      · cases h
    · split at h
      · rename_i he; subst he
        obtain ⟨z, hz, h⟩ := bind_some h
        exact .of _ h (ok_remM ex ey hz)
      · cases h
    · split at h
      · rename_i he; subst he
        cases hv : intBin bop k1 a b with
        | none => rw [hv] at h; cases h
        | some v =>
          rw [hv] at h
          refine .of _ h ?_
          have hs1 : scal (s.toA.ev C x) = some (.int k1 a) := by rw [ex]; rfl
          have hs2 : scal (s.toA.ev C y) = some (.int k1 b) := by rw [ey]; rfl
          cases bop <;> simp only [intBin, Option.some.injEq, reduceCtorEq] at hv <;> subst hv
          · exact ok_bin (r := .int k1 (k1.wrap (a + b))) hs1 hs2 (by cases k1 <;> rfl) rfl
          · exact ok_bin (r := .int k1 (k1.wrap (a - b))) hs1 hs2 (by cases k1 <;> rfl) rfl
          · exact ok_bin (r := .int k1 (k1.wrap (a * b))) hs1 hs2 (by cases k1 <;> rfl) rfl
          · exact ok_bin (r := .int k1 (k1.wrap (BitVec.ofInt k1.bits a &&& BitVec.ofInt k1.bits b).toNat)) hs1 hs2 (by cases k1 <;> rfl) rfl
          · exact ok_bin (r := .int k1 (k1.wrap (BitVec.ofInt k1.bits a ||| BitVec.ofInt k1.bits b).toNat)) hs1 hs2 (by cases k1 <;> rfl) rfl
          · exact ok_bin (r := .int k1 (k1.wrap (BitVec.ofInt k1.bits a ^^^ BitVec.ofInt k1.bits b).toNat)) hs1 hs2 (by cases k1 <;> rfl) rfl
          · exact ok_bin (r := .int k1 (k1.wrap (BitVec.ofInt k1.bits a &&& ~~~ BitVec.ofInt k1.bits b).toNat)) hs1 hs2 (by cases k1 <;> rfl) rfl
          · exact ok_bin (r := .bool (a == b)) hs1 hs2 (by cases k1 <;> rfl) rfl
          · exact ok_bin (r := .bool (a != b)) hs1 hs2 (by cases k1 <;> rfl) rfl
          · exact ok_bin (r := .bool (decide (a < b))) hs1 hs2 (by cases k1 <;> rfl) rfl
          · exact ok_bin (r := .bool (decide (a ≤ b))) hs1 hs2 (by cases k1 <;> rfl) rfl
          · exact ok_bin (r := .bool (decide (a > b))) hs1 hs2 (by cases k1 <;> rfl) rfl
          · exact ok_bin (r := .bool (decide (a ≥ b))) hs1 hs2 (by cases k1 <;> rfl) rfl
      · cases h
  · rename_i a b hx hy
    rw [hx] at ex; rw [hy] at ey
    split at h
    · cases hb : isBo E.P xt with
      | false => rw [hb] at h; cases h
      | true => rw [hb] at h; exact .of _ h (ok_beq ex ey (isBo_spec hb))
    · cases hb : isBo E.P xt with
      | false => rw [hb] at h; cases h
      | true => rw [hb] at h; exact .of _ h (ok_bne ex ey (isBo_spec hb))
    · cases h
  · rename_i a b hx hy
    rw [hx] at ex; rw [hy] at ey
    split at h
    · exact .of _ h (ok_streq ex ey)
    · exact .of _ h (ok_strne ex ey)
    · obtain ⟨z, hz, h⟩ := bind_some h
      exact .of _ h (by have := ok_strcat (P := E.P) (dst := dst) (ty := ty) (pos := pos) (aft := aft) (gd := gd) (xt := xt) (yt := yt) ex ey (strcat_some hz).1; rw [(strcat_some hz).2] at this; exact this)
    · cases h
  · rename_i k1 a k2 b hx hy
    rw [hx] at ex; rw [hy] at ey
    split at h
    · rename_i he; subst he
      cases hv : fltBin bop k1 a b with
      | none => rw [hv] at h; cases h
      | some v =>
        rw [hv] at h
        refine .of _ h ?_
        cases bop <;> first
          | (cases hv; exact ok_fop (by simp) ex ey)
          | (cases hv; exact ok_fcmp (by simp) ex ey rfl rfl)
          | cases hv
    · cases h
  · rename_i t kk n hx hy
    rw [hx] at ex; rw [hy] at ey
    split at h
    · cases hb : isIf E.P xt with
      | false => rw [hb] at h; cases h
      | true => rw [hb] at h; exact .of _ h (ok_ifne ex (isIf_spec hb))
    · cases h
  · rename_i hx hy
    rw [hx] at ex; rw [hy] at ey
    split at h
    · cases hb : isIf E.P xt with
      | false => rw [hb] at h; cases h
      | true => rw [hb] at h; exact .of _ h (ok_ifne_nil ex (isIf_spec hb))
    · cases h
  · rename_i hy
    exact slNil_ok hΓ hy h
  · rename_i hx _
    exact stEq_ok hΓ hx h
  · cases h

def opUn (E : Env) (uop : UnOp) (x : Operand) (s : LSt) (k : E1 → Option R) : Option R :=
  match uop, s.ev E x with
  | .not, .d .bool b => k (s.pv (.d .bool (!b)))
  | .neg, .d (.int j) n => k (s.pv (.d (.int j) (j.wrap (0 - n))))
  | _, _ => none

theorem opUn_ok (hΓ : C.Γ = E.gam) {uop : UnOp} {xt : TypeId} {x : Operand} (h : opUn E uop x s k = some r) : Does E C ⟨dst, .unOp uop xt x, ty, pos, aft, gd⟩ s k r := by
  unfold opUn at h
  have ex := ev_eq hΓ s x
  split at h
  · rename_i b hx
    rw [hx] at ex
    exact .of _ h (ok_un (u := .bool b) (by rw [ex]; rfl) rfl rfl)
  · rename_i j n hx
    rw [hx] at ex
    exact .of _ h (ok_un (u := .int j n) (by rw [ex]; rfl) rfl rfl)
  · cases h

def opPick (E : Env) (c x y : Operand) (s : LSt) (k : E1 → Option R) : Option R :=
  match s.ev E c with
  | .d .bool b => bif b then k (s.pv (s.ev E x)) else k (s.pv (s.ev E y))
  | _ => none

theorem opPick_ok (hΓ : C.Γ = E.gam) {c x y : Operand} (h : opPick E c x y s k = some r) : Does E C ⟨dst, .pick c x y, ty, pos, aft, gd⟩ s k r := by
  unfold opPick at h
  have ec := ev_eq hΓ s c
  split at h
  · rename_i b hc
    rw [hc] at ec
    cases b with
    | true => exact .of _ h (ok_pick_true ec (ev_eq hΓ s x))
    | false => exact .of _ h (ok_pick_false ec (ev_eq hΓ s y))
  · cases h

def opConv (E : Env) (st dt : TypeId) (x : Operand) (s : LSt) (k : E1 → Option R) : Option R :=
  match s.ev E x, E.P.underlying st, E.P.underlying dt with
  | .d (.int _) n, some _, some (.int j) => k (s.pv (.d (.int j) (j.wrap n)))
  | .d (.int _) n, some _, some (.float j) => k (s.pv (.d (.flt j) (canonF j (j.nearest n))))
  | _, _, _ => none

theorem opConv_ok (hΓ : C.Γ = E.gam) {st dt : TypeId} {x : Operand} (h : opConv E st dt x s k = some r) : Does E C ⟨dst, .convert st dt x, ty, pos, aft, gd⟩ s k r := by
  unfold opConv at h
  have ex := ev_eq hΓ s x
  split at h
  · rename_i k1 n d1 j hx h1 h2
    rw [hx] at ex
    exact .of _ h (ok_conv_int ex h1 h2)
  · rename_i k1 n d1 j hx h1 h2
    rw [hx] at ex
    exact .of _ h (ok_conv_intflt ex h1 h2)
  · cases h

/-! ### memory -/

/-- is the name free? -/
def free? (hp : LHp) (o : Nat) (x : Option R) : Option R := match hget hp o with | none => x | some _ => none
theorem free_some {hp : LHp} {o : Nat} {x : Option R} (h : free? hp o x = some r) : hget hp o = none ∧ x = some r := by
  unfold free? at h
  split at h
  · rename_i h0; exact ⟨h0, h⟩
  · cases h

def opBox (E : Env) (x : Operand) (s : LSt) (k : E1 → Option R) : Option R :=
  bif (s.ev E x).plain then free? s.hp s.nx (k ⟨.op s.nx [] 0, [], [(s.nx, .box (s.ev E x))], s.nx + 1⟩) else none

theorem opBox_ok (hΓ : C.Γ = E.gam) {d : Nat} {t : TypeId} {x : Operand} (h : opBox E x s k = some r) : Does E C ⟨some d, .box t x, ty, pos, aft, gd⟩ s k r := by
  unfold opBox at h
  cases hp : (s.ev E x).plain with
  | false => rw [hp] at h; cases h
  | true =>
    rw [hp] at h
    obtain ⟨h0, h⟩ := free_some h
    exact .of _ h (ok_box (ev_eq hΓ s x) hp h0)

/-- the zero of a type, as an abstract value -/
def zeroA? (E : Env) (t : TypeId) : Option AV :=
  match lk E.ty t with
  | some τ => some (zeroN τ)
  | none => (match E.P.info? t with
    | some i => (match i.zero with | some z => (match z with | .nilFunc => some .nilfn | .nilIface => some .nilif | .pointer none => some .nilp | _ => none) | none => none)
    | none => none)

theorem zeroA_some (hE : E.OK) {t : TypeId} {a : AV} (h : zeroA? E t = some a) (w : World) (im : Nat → Prop) (μ : Mu) (hp : Hp) : ∃ z : Value, (zeroValue t).run E.P w = .ok z w ∧ RepA w im μ hp a z.cells.toList := by
  unfold zeroA? at h
  split at h
  · rename_i τ hτ
    cases h
    obtain ⟨i, z, h1, h2, h3, h4, h5⟩ := (hE.ty _ (lk_mem hτ)).info
    obtain ⟨z', hr, hc⟩ := run_zero (P := E.P) (t := t) (ty := τ) ⟨i, z, h1, h4, h5⟩ w
    exact ⟨z', hr, by rw [hc]; exact zeroN_rep w im μ hp τ⟩
  · split at h
    · rename_i i hi
      split at h
      · rename_i z hz
        have hr : (zeroValue t).run E.P w = .ok z w := by simp [zeroValue, typeInfo, hi, hz]
        split at h
        · cases h; exact ⟨_, hr, by simp [RepA, Value.cells]⟩
        · cases h; exact ⟨_, hr, by simp [RepA, Value.cells]⟩
        · cases h; exact ⟨_, hr, by simp [RepA, Value.cells]⟩
        · cases h
      · cases h
    · cases h

def opAlloc (E : Env) (t : TypeId) (s : LSt) (k : E1 → Option R) : Option R :=
  match zeroA? E t with
  | some a => free? s.hp s.nx (k ⟨.op s.nx [] 0, [], [(s.nx, .box a)], s.nx + 1⟩)
  | none => none

theorem opAlloc_ok (hE : E.OK) {d : Nat} {t : TypeId} (h : opAlloc E t s k = some r) : Does E C ⟨some d, .alloc t, ty, pos, aft, gd⟩ s k r := by
  unfold opAlloc at h
  split at h
  · rename_i a ha
    obtain ⟨h0, h⟩ := free_some h
    refine .of _ h ?_
    intro s1 hop hhp im μ act w hi hd
    have h01 : s1.hp s.nx = none := (hhp s.nx (.inr (by simp [E1.eff]))).trans h0
    obtain ⟨z, hrun, hc⟩ := zeroA_some hE ha w im μ s1.hp
    refine ⟨_, _, im, _, .inl ?_, hi.newBox (c := a) (cells := z.cells) (T := t) (hd d rfl) h01 hc⟩
    simp only [execOp, Instr.alloc, Sem.run_bind, hrun, newVar_run, Result.andThen_ok]
    rfl
  · cases h

def opLoad (E : Env) (t : TypeId) (x : Operand) (s : LSt) (k : E1 → Option R) : Option R :=
  match s.ev E x with
  | .ip τ y => bif tyIs E.P t τ.size τ.isAgg then k (s.pv (.d τ y)) else none
  | .op o p off =>
    (match hget s.hp o with
    | some (.box v) => subA v p (fun off' u => bif Nat.beq off' off && tyIs E.P t u.asize u.isAgg then k (s.pr u [o]) else none)
    | _ => none)
  | .oe o m i =>
    (match hget s.hp o with
    | some (.arr _ e m' _ xs) => bif Nat.beq m m' && tyIs E.P t e.size e.isAgg then (xs[i]?).bind fun z => k (s.pr (.d e z) [o]) else none
    | _ => none)
  | _ => none

theorem opLoad_ok (hΓ : C.Γ = E.gam) {t : TypeId} {x : Operand} (h : opLoad E t x s k = some r) : Does E C ⟨dst, .load t x, ty, pos, aft, gd⟩ s k r := by
  unfold opLoad at h
  have ex := ev_eq hΓ s x
  split at h
  · rename_i τ y hx
    rw [hx] at ex
    cases hb : tyIs E.P t τ.size τ.isAgg with
    | false => rw [hb] at h; cases h
    | true => rw [hb] at h; exact .of _ h (ok_load_ip ex (tyIs_spec hb))
  · rename_i o p off hx
    rw [hx] at ex
    split at h
    · rename_i v ho
      obtain ⟨off', u, h1, h2⟩ := subA_some v p _ r h
      cases hb : Nat.beq off' off && tyIs E.P t u.asize u.isAgg with
      | false => rw [hb] at h2; cases h2
      | true =>
        rw [hb] at h2
        simp only [Bool.and_eq_true] at hb
        exact .of _ h2 (ok_load_op ex ho h1 (Nat.eq_of_beq_eq_true hb.1) (tyIs_spec hb.2))
    · cases h
  · rename_i o m i hx
    rw [hx] at ex
    split at h
    · rename_i T e m' z xs ho
      cases hb : Nat.beq m m' && tyIs E.P t e.size e.isAgg with
      | false => rw [hb] at h; cases h
      | true =>
        rw [hb] at h
        simp only [Bool.and_eq_true] at hb
        have hm := Nat.eq_of_beq_eq_true hb.1
        subst hm
        obtain ⟨y, hy, h⟩ := bind_some h
        exact .of _ h (ok_load_oe ex ho hy (tyIs_spec hb.2))
    · cases h
  · cases h

/-! ### arrays that are to turn no more, ahead of an operation -/

def fzOne (hp : LHp) (o : Nat) : LHp :=
  match hget hp o with
  | some (.arr T e m false xs) => [(o, .arr T e m true xs)]
  | _ => []
/-- freeze these arrays: what turns -/
def fzAll (hp : LHp) : List Nat → LHp
  | [] => []
  | o :: l => let w := fzAll hp l; fzOne (w ++ hp) o ++ w

theorem fzAll_le {s : ASt} {hp : LHp} (hs : s.hp = hget hp) : ∀ l : List Nat, Le C s ⟨s.fr, hpSet s.hp (fzAll hp l)⟩
  | [] => by
    have : hpSet s.hp (fzAll hp []) = s.hp := by funext o; simp [fzAll, hpSet]
    rw [this]; exact Le.refl _ _
  | o :: l => by
    refine (fzAll_le hs l).trans ?_
    simp only [fzAll, fzOne]
    have hh : hget (fzAll hp l ++ hp) = hpSet s.hp (fzAll hp l) := by rw [hget_append, hs]
    split
    · rename_i T e m xs h
      rw [hh] at h
      have := le_freeze (C := C) (s := ⟨s.fr, hpSet s.hp (fzAll hp l)⟩) h
      refine this.trans ?_
      have he : hpSet (hpSet s.hp (fzAll hp l)) [(o, .arr T e m true xs)] = hpSet s.hp ([(o, .arr T e m true xs)] ++ fzAll hp l) := by
        rw [hs, ← hget_append, ← hget_append, ← hget_append, List.append_assoc]
      rw [he]; exact Le.refl _ _
    · simp only [List.nil_append]; exact Le.refl _ _

theorem hpSet_append (hp : Hp) (a b : LHp) : hpSet hp (a ++ b) = hpSet (hpSet hp b) a := by
  funext o
  unfold hpSet
  rw [List.find?_append]
  cases a.find? (fun p => Nat.beq p.1 o) <;> simp

/-- an operation in a state in which some arrays have just been frozen -/
theorem OpW.frozen {P : Program} {o : Oper} {e : E1} {dst : Option Nat} {s : LSt} (l : List Nat) (h : OpW P C o (e.eff dst) ⟨s.fr.get, hpSet (hget s.hp) (fzAll s.hp l)⟩) :
    OpW P C o ((E1.mk e.av e.rd (e.wr ++ fzAll s.hp l) e.nx).eff dst) s.toA := by
  intro s1 hop hhp a w hr hd K Q hK
  -- the arrays that are frozen are the same in s1
  have hkeys : ∀ k, (k ∈ e.rd ∨ k ∈ (e.wr ++ fzAll s.hp l).map (·.1)) → s1.hp k = hget s.hp k := hhp
  have hle : Le C s1 ⟨s1.fr, hpSet s1.hp (fzAll s.hp l)⟩ := by
    have key : ∀ l' : List Nat, (∀ k, k ∈ (fzAll s.hp l').map (·.1) → s1.hp k = hget s.hp k) → Le C s1 ⟨s1.fr, hpSet s1.hp (fzAll s.hp l')⟩ := by
      intro l'
      induction l' with
      | nil =>
        intro _
        have : hpSet s1.hp (fzAll s.hp []) = s1.hp := by funext o; simp [fzAll, hpSet]
        rw [this]; exact Le.refl _ _
      | cons o l' ih =>
        intro hk
        have hsub : ∀ k, k ∈ (fzAll s.hp l').map (·.1) → k ∈ (fzAll s.hp (o :: l')).map (·.1) := fun k hk => by simp only [fzAll, List.map_append, List.mem_append]; exact .inr hk
        refine (ih (fun k h => hk k (hsub k h))).trans ?_
        simp only [fzAll, fzOne]
        split
        · rename_i T e m xs h
          have ho : hpSet s1.hp (fzAll s.hp l') o = some (.arr T e m false xs) := by
            have h' := h
            rw [hget_append] at h'
            by_cases hm : o ∈ (fzAll s.hp l').map (·.1)
            · rw [hpSet_congr (hp' := hget s.hp) hm]; exact h'
            · rw [hpSet_ne hm] at h' ⊢
              rw [hk o (by simp only [fzAll, fzOne, h, List.map_append, List.mem_append]; exact .inl (by simp))]
              exact h'
          have := le_freeze (C := C) (s := ⟨s1.fr, hpSet s1.hp (fzAll s.hp l')⟩) ho
          refine this.trans ?_
          have he : hpSet (hpSet s1.hp (fzAll s.hp l')) [(o, .arr T e m true xs)] = hpSet s1.hp ([(o, .arr T e m true xs)] ++ fzAll s.hp l') := by rw [hpSet_append]
          rw [he]; exact Le.refl _ _
        · simp only [List.nil_append]; exact Le.refl _ _
    exact key l (fun k h => hkeys k (.inr (by simp only [List.map_append, List.mem_append]; exact .inr h)))
  refine h ⟨s1.fr, hpSet s1.hp (fzAll s.hp l)⟩ hop ?_ a w (hle a w hr) hd K Q ?_
  · intro k hk
    show hpSet s1.hp (fzAll s.hp l) k = hpSet (hget s.hp) (fzAll s.hp l) k
    by_cases hm : k ∈ (fzAll s.hp l).map (·.1)
    · exact hpSet_congr hm
    · rw [hpSet_ne hm, hpSet_ne hm]
      rcases hk with hk | hk
      · exact hkeys k (.inl hk)
      · exact hkeys k (.inr (by simp only [List.map_append, List.mem_append]; exact .inl hk))
  · intro a' w' hr'
    refine hK a' w' ?_
    have : (Eff.app (e.eff dst) ⟨s1.fr, hpSet s1.hp (fzAll s.hp l)⟩) = Eff.app ((E1.mk e.av e.rd (e.wr ++ fzAll s.hp l) e.nx).eff dst) s1 := by
      simp only [Eff.app, E1.eff, hpSet_append]
      congr 1
      cases dst <;> rfl
    rw [← this]; exact hr'

end
end Go.Vm
namespace Go.Vm

variable {R : Type}

section
variable {P : Program} {C : Ctx} {s : ASt}
variable {dst : Option Tmp} {ty : TypeId} {pos : String} {aft : Array Edge} {gd : Option (Nat × Bool)}

theorem ok_slice_F {t : TypeId} {x : Operand} {lo hi : Option Operand} {e : Ty} {xs : List e.den} {l h : Nat} (hx : CoeF s.hp (s.ev C x) (.slice e) xs) (rdl : List Nat) (hrd : ∀ k ∈ (s.ev C x).osl, k ∈ rdl) (ht : SlT P t e.size) (hlo : BndIs C s lo 0 l) (hhi : BndIs C s hi xs.length h)
    (h1 : l ≤ h) (h2 : h ≤ xs.length) : OpOK P C ⟨dst, .slice t x lo hi none, ty, pos, aft, gd⟩ ⟨dst, .d (.slice e) ((xs.take h).drop l), rdl, []⟩ s :=
  ok_read rdl fun w im μ hp ρ hr hk hob => by
    have hxc : CoeF hp (s.ev C x) (.slice e) xs := hx.congr (fun k h => hk k (hrd k h))
    obtain ⟨hA0, hag⟩ := (hr x (by simp [Op.operands])).toA hxc.plain
    rw [hxc.agg] at hag
    have hA := hxc.sound hob _ hA0
    simp only [RepD] at hA
    obtain ⟨ad, cap, hc, h3, h4, h00, h5⟩ := hA
    have hv := slice_of_cells hc hag
    obtain ⟨et, i, hu, hi', hsz⟩ := ht
    have hb := run_bounds (P := P) w (len := xs.length) (cap := cap) (bnd_rep hlo (fun o ho => hr o (by subst ho; simp [Op.operands]))) (bnd_rep hhi (fun o ho => hr o (by subst ho; cases lo <;> simp [Op.operands]))) h1 (by omega) true
    refine ⟨.slice (if cap = l then ad else ad.map (·.add (l * e.size))) (h - l) (cap - l), w, ?_, rfl, rfl, rfl, rfl, ⟨?_, rfl⟩⟩
    · simp [execOp, hv, Instr.sliceAt, Instr.slice, run_underlying hu, hb, sizeOf, typeInfo, hi', hsz]
    · simp only [RepA, RepD, Value.cells]
      have hl : ((xs.take h).drop l).length = h - l := by rw [List.length_drop, List.length_take]; omega
      refine ⟨_, cap - l, by rw [hl], by omega, by omega, ?_, ?_⟩
      · split
        · intro hn; rw [hn] at h00; have := h00 rfl; omega
        · intro hn
          rw [Option.map_eq_none_iff] at hn
          have := h00 hn; omega
      · by_cases hcl : cap = l
        · have : (xs.take h).drop l = [] := by
            apply List.eq_nil_of_length_eq_zero; omega
          rw [if_pos hcl, this]
          cases ad with
          | none => rfl
          | some ad => exact .inl rfl
        · rw [if_neg hcl]
          cases ad with
          | none => have h5' : xs = [] := h5; rw [h5']; simp [SliceAt]
          | some ad =>
            rcases h5 with h5 | ⟨hs, him, cs, h6, h7⟩
            · rw [h5]; exact .inl (by simp)
            · obtain ⟨b, off, sp⟩ := ad
              simp only at hs him h6
              subst hs
              simp only [Option.map_some, addr_add, SliceAt]
              refine .inr ⟨trivial, him, (cs.take (h * e.size)).drop (l * e.size), ?_, RepL.drop (RepD.length e) (RepL.take (RepD.length e) h7 h) l⟩
              intro j v hj
              rw [List.getElem?_drop, List.getElem?_take] at hj
              split at hj
              · have := h6 _ _ hj; rw [Nat.add_assoc]; exact this
              · cases hj


theorem run_bounds3 (w : World) {lo hi mx : Option Value} {len cap l h m : Nat} (hlo : match lo with | none => l = 0 | some v => ∃ k z, v = .int k z ∧ 0 ≤ z ∧ z.toNat = l) (hhi : match hi with | none => h = 0 | some v => ∃ k z, v = .int k z ∧ 0 ≤ z ∧ z.toNat = h)
    (hmx : match mx with | none => m = 0 | some v => ∃ k z, v = .int k z ∧ 0 ≤ z ∧ z.toNat = m) (h1 : l ≤ h) (h2 : h ≤ m) (h3 : m ≤ cap) : hi.isSome = true → mx.isSome = true → (Instr.sliceBounds true len cap lo hi mx).run P w = .ok (l, h, m) w := by
  intro hs1 hs2
  cases hi with
  | none => cases hs1
  | some v =>
    cases mx with
    | none => cases hs2
    | some u =>
      obtain ⟨k, z, rfl, hz, rfl⟩ := hhi
      obtain ⟨k2, z2, rfl, hz2, rfl⟩ := hmx
      cases lo with
      | none =>
        simp only at hlo; subst hlo
        simp [Instr.sliceBounds, run_sliceBound w hz2 (show z2 ≤ (cap : Int) by omega), run_sliceBound w hz (show z ≤ ((z2.toNat : Nat) : Int) by omega)]
      | some u' =>
        obtain ⟨k', z', rfl, hz', rfl⟩ := hlo
        simp [Instr.sliceBounds, run_sliceBound w hz2 (show z2 ≤ (cap : Int) by omega), run_sliceBound w hz (show z ≤ ((z2.toNat : Nat) : Int) by omega), run_sliceBound w hz' (show z' ≤ ((z.toNat : Nat) : Int) by omega)]

theorem ok_slice3_F {t : TypeId} {x hh mm : Operand} {lo : Option Operand} {m : Nat} {e : Ty} {xs : List e.den} {l h : Nat} (hx : CoeF s.hp (s.ev C x) (.slice e) xs) (rdl : List Nat) (hrd : ∀ k ∈ (s.ev C x).osl, k ∈ rdl) (ht : SlT P t e.size) (hlo : BndIs C s lo 0 l) (hhi : BndIs C s (some hh) 0 h) (hmm : BndIs C s (some mm) 0 m) (h2m : h ≤ m) (hml : m ≤ xs.length)
    (h1 : l ≤ h) (h2 : h ≤ xs.length) : OpOK P C ⟨dst, .slice t x lo (some hh) (some mm), ty, pos, aft, gd⟩ ⟨dst, .d (.slice e) ((xs.take h).drop l), rdl, []⟩ s :=
  ok_read rdl fun w im μ hp ρ hr hk hob => by
    have hxc : CoeF hp (s.ev C x) (.slice e) xs := hx.congr (fun k h => hk k (hrd k h))
    obtain ⟨hA0, hag⟩ := (hr x (by simp [Op.operands])).toA hxc.plain
    rw [hxc.agg] at hag
    have hA := hxc.sound hob _ hA0
    simp only [RepD] at hA
    obtain ⟨ad, cap, hc, h3, h4, h00, h5⟩ := hA
    have hv := slice_of_cells hc hag
    obtain ⟨et, i, hu, hi', hsz⟩ := ht
    have hb := run_bounds3 (P := P) w (lo := lo.map ρ) (hi := some (ρ hh)) (mx := some (ρ mm)) (len := xs.length) (cap := cap) (bnd_rep hlo (fun o ho => hr o (by subst ho; simp [Op.operands]))) (bnd_rep hhi (fun o ho => hr o (by cases ho; cases lo <;> simp [Op.operands]))) (bnd_rep hmm (fun o ho => hr o (by cases ho; cases lo <;> simp [Op.operands]))) h1 h2m (by omega : m ≤ cap) rfl rfl
    refine ⟨.slice (if m = l then ad else ad.map (·.add (l * e.size))) (h - l) (m - l), w, ?_, rfl, rfl, rfl, rfl, ⟨?_, rfl⟩⟩
    · simp [execOp, hv, Instr.sliceAt, Instr.slice, run_underlying hu, hb, sizeOf, typeInfo, hi', hsz]
    · simp only [RepA, RepD, Value.cells]
      have hl : ((xs.take h).drop l).length = h - l := by rw [List.length_drop, List.length_take]; omega
      refine ⟨_, m - l, by rw [hl], by omega, by omega, ?_, ?_⟩
      · split
        · intro hn; rw [hn] at h00; have := h00 rfl; omega
        · intro hn
          rw [Option.map_eq_none_iff] at hn
          have := h00 hn; omega
      · by_cases hcl : m = l
        · have : (xs.take h).drop l = [] := by
            apply List.eq_nil_of_length_eq_zero; omega
          rw [if_pos hcl, this]
          cases ad with
          | none => rfl
          | some ad => exact .inl rfl
        · rw [if_neg hcl]
          cases ad with
          | none => have h5' : xs = [] := h5; rw [h5']; simp [SliceAt]
          | some ad =>
            rcases h5 with h5 | ⟨hs, him, cs, h6, h7⟩
            · rw [h5]; exact .inl (by simp)
            · obtain ⟨b, off, sp⟩ := ad
              simp only at hs him h6
              subst hs
              simp only [Option.map_some, addr_add, SliceAt]
              refine .inr ⟨trivial, him, (cs.take (h * e.size)).drop (l * e.size), ?_, RepL.drop (RepD.length e) (RepL.take (RepD.length e) h7 h) l⟩
              intro j v hj
              rw [List.getElem?_drop, List.getElem?_take] at hj
              split at hj
              · have := h6 _ _ hj; rw [Nat.add_assoc]; exact this
              · cases hj


end

section
variable {E : Env} {C : Ctx} {s : LSt} {k : E1 → Option R} {r : R} {dst : Option Tmp} {ty : TypeId} {pos : String} {aft : Array Edge} {gd : Option (Nat × Bool)}

/-- put into a list -/
def setN {α : Type} (xs : List α) (i : Nat) (y : α) : Option (List α) := bif Nat.blt i xs.length then some (xs.set i y) else none
theorem setN_some {α : Type} {xs zs : List α} {i : Nat} {y : α} (h : setN xs i y = some zs) : i < xs.length ∧ xs.set i y = zs := by
  unfold setN at h
  cases hb : Nat.blt i xs.length with
  | false => rw [hb] at h; cases h
  | true => rw [hb] at h; cases h; exact ⟨Nat.le_of_ble_eq_true hb, rfl⟩

/-- behind a freeze -/
theorem Does.frozen {o : Oper} {e : E1} (l : List Nat) (hk : k ⟨e.av, e.rd, e.wr ++ fzAll s.hp l, e.nx⟩ = some r) (h : OpOK E.P C o (e.eff o.dst) ⟨s.fr.get, hpSet (hget s.hp) (fzAll s.hp l)⟩) : Does E C o s k r :=
  ⟨_, hk, OpW.frozen (e := e) l h.w⟩

theorem ev_fz {E : Env} {C : Ctx} (hΓ : C.Γ = E.gam) (s : LSt) (hp : Hp) (x : Operand) : (⟨s.fr.get, hp⟩ : ASt).ev C x = s.ev E x := ev_eq hΓ s x

def opStore (E : Env) (t : TypeId) (x y : Operand) (s : LSt) (k : E1 → Option R) : Option R :=
  match s.ev E x with
  | .op o p off =>
    (match hget s.hp o with
    | some (.box v) => bif (s.ev E y).plain then setA v p (s.ev E y) (fun off' v' => bif Nat.beq off' off && tyN E.P t (s.ev E y).asize then k ⟨.undef, [], [(o, .box v')], s.nx⟩ else none) else none
    | _ => none)
  | .oe o m i =>
    let l := (s.ev E y).osl
    let fz := fzAll s.hp l
    (match hget (fz ++ s.hp) o with
    | some (.arr T e m' false xs) =>
      bif Nat.beq m m' && tyN E.P t e.size then
        (match toD (fz ++ s.hp) (s.ev E y) e with
        | some z => (setN xs i z).bind fun zs => k ⟨.undef, l, [(o, .arr T e m false zs)] ++ fz, s.nx⟩
        | none => none)
      else none
    | _ => none)
  | _ => none

theorem opStore_ok (hΓ : C.Γ = E.gam) {t : TypeId} {x y : Operand} (h : opStore E t x y s k = some r) : Does E C ⟨none, .store t x y, ty, pos, aft, gd⟩ s k r := by
  unfold opStore at h
  have ex := ev_eq hΓ s x
  have ey := ev_eq hΓ s y
  split at h
  · rename_i o p off hx
    rw [hx] at ex
    split at h
    · rename_i v ho
      cases hpl : (s.ev E y).plain with
      | false => rw [hpl] at h; cases h
      | true =>
        rw [hpl] at h
        obtain ⟨off', v', h1, h2⟩ := setA_some v p _ _ r h
        cases hb : Nat.beq off' off && tyN E.P t (s.ev E y).asize with
        | false => rw [hb] at h2; cases h2
        | true =>
          rw [hb] at h2
          simp only [Bool.and_eq_true] at hb
          obtain ⟨b, hty⟩ := tyN_spec hb.2
          exact .of _ h2 (ok_store_op ex ey hpl ho h1 (Nat.eq_of_beq_eq_true hb.1) hty)
    · cases h
  · rename_i o m i hx
    simp only at h
    split at h
    · rename_i T e m' xs ho
      cases hb : Nat.beq m m' && tyN E.P t e.size with
      | false => rw [hb] at h; cases h
      | true =>
        rw [hb] at h
        simp only [Bool.and_eq_true] at hb
        have hm := Nat.eq_of_beq_eq_true hb.1
        subst hm
        obtain ⟨b, hty⟩ := tyN_spec hb.2
        cases hz : toD (fzAll s.hp (s.ev E y).osl ++ s.hp) (s.ev E y) e with
        | none => simp only [cond_true, hz] at h; cases h
        | some z =>
          simp only [cond_true, hz] at h
          obtain ⟨zs, hzs, h⟩ := bind_some h
          obtain ⟨g1, rfl⟩ := setN_some hzs
          refine .frozen (e := ⟨.undef, (s.ev E y).osl, [(o, .arr T e m false (xs.set i z))], s.nx⟩) (s.ev E y).osl h ?_
          have hc := toD_some hz
          rw [hget_append] at hc ho
          exact ok_store_oeF (by rw [ev_fz hΓ, hx]) ho g1 (by rw [ev_fz hΓ]; exact hc) _ (by rw [ev_fz hΓ]; exact fun _ h => h) hty
    · cases h
  · cases h

/-! ### fields -/

def fld? (P : Program) (t : TypeId) (f : Nat) : Option Nat :=
  match P.underlying t with
  | some (.struct fs) => (match fs[f]? with | some fl => (match P.info? fl.type with | some i => bif Nat.beq i.size 0 then none else some fl.offset | none => none) | none => none)
  | _ => none
theorem fld_some {P : Program} {t : TypeId} {f o : Nat} (h : fld? P t f = some o) : FldAt P t f o := by
  unfold fld? at h
  split at h
  · rename_i fs hfs
    split at h
    · rename_i fl hfl
      split at h
      · rename_i i hi
        cases hb : Nat.beq i.size 0 with
        | true => rw [hb] at h; cases h
        | false => rw [hb] at h; cases h; exact ⟨fs, fl, i, hfs, hfl, rfl, hi, beq_ne hb⟩
      · cases h
    · cases h
  · cases h

def fldV? (P : Program) (t : TypeId) (f : Nat) : Option (Nat × Nat × Bool) :=
  match P.underlying t with
  | some (.struct fs) => (match fs[f]? with | some fl => (match tyS? P fl.type with | some (n, b) => some (fl.offset, n, b) | none => none) | none => none)
  | _ => none
theorem fldV_some {P : Program} {t : TypeId} {f o n : Nat} {b : Bool} (h : fldV? P t f = some (o, n, b)) : FldV P t f o n b := by
  unfold fldV? at h
  split at h
  · rename_i fs hfs
    split at h
    · rename_i fl hfl
      split at h
      · rename_i n' b' hi
        cases h
        exact ⟨fs, fl, hfs, hfl, rfl, tyS_some hi⟩
      · cases h
    · cases h
  · cases h

theorem ok_field_oeF {P : Program} {s : ASt} {t : TypeId} {x : Operand} {f kk off' o m i : Nat} {T : TypeId} {e τ' : Ty} {xs : List e.den} {z : e.den} {y' : τ'.den} (hx : s.ev C x = .oe o m i) (ho : s.hp o = some (.arr T e m true xs)) (hz : xs[i]? = some z)
    (hf : FldAt P t f kk) (hs : Sub (.d e z) [f] off' (.d τ' y')) (hoff : off' = kk) : OpOK P C ⟨dst, .fieldAddr t x f, ty, pos, aft, gd⟩ ⟨dst, .ip τ' y', [o], []⟩ s :=
  ok_read [o] fun w im μ hp ρ h hk hob => by
    subst hoff
    obtain ⟨hr, hag⟩ := hx ▸ h x (by simp [Op.operands])
    have hpo : hp o = some (.arr T e m true xs) := (hk o (by simp)).trans ho
    simp only [RepA] at hr
    obtain ⟨T', e', m', z', xs', ho', hle, u, hc, h1, hpl⟩ := hr
    rw [hpo] at ho'
    cases ho'
    obtain ⟨b, cap, hp1, rfl⟩ := hpl rfl
    have hlt : i < xs.length := (List.getElem?_eq_some_iff.1 hz).1
    rcases hob o _ hpo with ⟨ad, hp', rfl⟩ | ⟨hz', _⟩ | ⟨_, b', cap', cs, hp', him, _, _, hb, hl⟩
    · simp at hlt
    · cases hz'
    · obtain rfl : b' = b := by
        rcases hp1 with hp1 | hp1 <;> rw [hp1] at hp' <;> cases hp' <;> rfl
      have hv : ρ x = .pointer (some ⟨b', i * e.size, none⟩) := by
        generalize ρ x = v at hc hag
        cases v <;> simp_all [Value.cells, vIsAgg, AV.isAgg]
      obtain ⟨hg, hgl⟩ := RepL.get (RepD.length e) hl hz
      have hca2 := hb.sub (i * e.size) e.size
      rw [Nat.zero_add] at hca2
      obtain ⟨c1, c2, c3, hcs, hl1, hu⟩ := hs.sound (w := w) (im := im) (μ := μ) (hp := hp) _ (by simp only [RepA]; exact hg)
      rw [hcs] at hca2
      have hca3 := (CellsAt.append hca2).2
      rw [hl1] at hca3
      refine ⟨.pointer (some ⟨b', i * e.size + off', none⟩), w, ?_, rfl, rfl, rfl, rfl, ?_, rfl⟩
      · simp only [execOp, hv, Sem.run_bind, run_fieldAt hf, Result.andThen_ok]; rfl
      · simp only [RepA, Value.cells] at hu ⊢
        exact ⟨b', i * e.size + off', rfl, him, c2, (CellsAt.append hca3).1, hu⟩

def opFieldAddr (E : Env) (t : TypeId) (x : Operand) (f : Nat) (s : LSt) (k : E1 → Option R) : Option R :=
  match fld? E.P t f with
  | some kk =>
    (match s.ev E x with
    | .op o p off => k (s.pv (.op o (p ++ [f]) (off + kk)))
    | .ip τ y => subD τ y [f] (fun off' u => match u with | .d τ' y' => bif Nat.beq off' kk then k (s.pv (.ip τ' y')) else none | _ => none)
    | .oe o m i =>
      let fz := fzAll s.hp [o]
      (match hget (fz ++ s.hp) o with
      | some (.arr _ e m' true xs) =>
        bif Nat.beq m m' then
          (match xs[i]? with
          | some z => subD e z [f] (fun off' u => match u with | .d τ' y' => bif Nat.beq off' kk then k ⟨.ip τ' y', [o], fz, s.nx⟩ else none | _ => none)
          | none => none)
        else none
      | _ => none)
    | _ => none)
  | none => none

theorem opFieldAddr_ok (hΓ : C.Γ = E.gam) {t : TypeId} {x : Operand} {f : Nat} (h : opFieldAddr E t x f s k = some r) : Does E C ⟨dst, .fieldAddr t x f, ty, pos, aft, gd⟩ s k r := by
  unfold opFieldAddr at h
  have ex := ev_eq hΓ s x
  split at h
  · rename_i kk hf
    split at h
    · rename_i o p off hx
      rw [hx] at ex
      exact .of _ h (ok_field_op ex (fld_some hf) rfl rfl)
    · rename_i τ y hx
      rw [hx] at ex
      obtain ⟨off', u, h1, h2⟩ := subD_some τ y [f] _ r h
      split at h2
      · rename_i τ' y'
        cases hb : Nat.beq off' kk with
        | false => rw [hb] at h2; cases h2
        | true => rw [hb] at h2; exact .of _ h2 (ok_field_ip ex (fld_some hf) h1 (Nat.eq_of_beq_eq_true hb))
      · cases h2
    · rename_i o m i hx
      simp only at h
      split at h
      · rename_i T e m' xs ho
        cases hb : Nat.beq m m' with
        | false => rw [hb] at h; cases h
        | true =>
          rw [hb] at h
          have hm := Nat.eq_of_beq_eq_true hb
          subst hm
          simp only [cond_true] at h
          split at h
          · rename_i z hz
            obtain ⟨off', u, h1, h2⟩ := subD_some e z [f] _ r h
            split at h2
            · rename_i τ' y'
              cases hb : Nat.beq off' kk with
              | false => rw [hb] at h2; cases h2
              | true =>
                rw [hb] at h2
                refine .frozen (e := ⟨.ip τ' y', [o], [], s.nx⟩) [o] h2 ?_
                rw [hget_append] at ho
                exact ok_field_oeF (by rw [ev_fz hΓ, hx]) ho hz (fld_some hf) h1 (Nat.eq_of_beq_eq_true hb)
            · cases h2
          · cases h
      · cases h
    · cases h
  · cases h

def opField (E : Env) (t : TypeId) (x : Operand) (f : Nat) (s : LSt) (k : E1 → Option R) : Option R :=
  match fldV? E.P t f with
  | some (kk, n, b) =>
    bif (s.ev E x).plain && (s.ev E x).isAgg then
      subA (s.ev E x) [f] (fun off' u => bif Nat.beq off' kk && (Nat.beq u.asize n && (bif u.isAgg then b else !b)) then k (s.pv u) else none)
    else none
  | none => none

theorem opField_ok (hΓ : C.Γ = E.gam) {t : TypeId} {x : Operand} {f : Nat} (h : opField E t x f s k = some r) : Does E C ⟨dst, .field t x f, ty, pos, aft, gd⟩ s k r := by
  unfold opField at h
  have ex := ev_eq hΓ s x
  split at h
  · rename_i kk n b hf
    cases hb : (s.ev E x).plain && (s.ev E x).isAgg with
    | false => rw [hb] at h; cases h
    | true =>
      rw [hb] at h
      simp only [Bool.and_eq_true] at hb
      obtain ⟨off', u, h1, h2⟩ := subA_some _ [f] _ r h
      cases hc : Nat.beq off' kk && (Nat.beq u.asize n && (bif u.isAgg then b else !b)) with
      | false => rw [hc] at h2; cases h2
      | true =>
        rw [hc] at h2
        simp only [Bool.and_eq_true] at hc
        obtain ⟨c1, c2, c3⟩ := hc
        have hv := fldV_some hf
        rw [← Nat.eq_of_beq_eq_true c2] at hv
        have : b = u.isAgg := by cases hq : u.isAgg <;> rw [hq] at c3 <;> cases b <;> simp_all
        rw [this] at hv
        exact .of _ h2 (ok_fieldV ex hb.1 hb.2 h1 hv (Nat.eq_of_beq_eq_true c1))
  · cases h

/-! ### elements -/

def opIndexAddr (E : Env) (t : TypeId) (x y : Operand) (s : LSt) (k : E1 → Option R) : Option R :=
  match s.ev E x, s.ev E y with
  | .d (.slice e) xs, .d (.int _) n => bif slIs E.P t e.size then (idx xs n).bind fun z => k (s.pv (.ip e z)) else none
  | .ip (.arr m e) xs, .d (.int _) n => bif arIs E.P t m e.size then (idx xs n).bind fun z => k (s.pv (.ip e z)) else none
  | .os o m, .d (.int _) n =>
    (match hget s.hp o with
    | some (.arr _ e m' _ xs) => bif Nat.beq m m' && slIs E.P t e.size then (idx xs n).bind fun _ => k (s.pr (.oe o m n.toNat) [o]) else none
    | _ => none)
  | .ow o m j q, .d (.int _) n =>
    (match hget s.hp o with
    | some (.arr _ e m' _ xs) => bif Nat.beq m m' && (slIs E.P t e.size && (decide (0 ≤ n) && decide (n < q))) then (xs[j + n.toNat]?).bind fun _ => k (s.pr (.oe o m (j + n.toNat)) [o]) else none
    | _ => none)
  | .op o p off, .d (.int _) n =>
    (match hget s.hp o with
    | some (.box v) => subA v p (fun _ u => match u with | .d (.arr m e) xs => bif arIs E.P t m e.size then (idx xs n).bind fun _ => k (s.pr (.op o (p ++ [n.toNat]) (off + n.toNat * e.size)) [o]) else none | _ => none)
    | _ => none)
  | _, _ => none

theorem opIndexAddr_ok (hΓ : C.Γ = E.gam) {t : TypeId} {x y : Operand} (h : opIndexAddr E t x y s k = some r) : Does E C ⟨dst, .indexAddr t x y, ty, pos, aft, gd⟩ s k r := by
  unfold opIndexAddr at h
  have ex := ev_eq hΓ s x
  have ey := ev_eq hΓ s y
  split at h
  · rename_i e xs kk n hx hy
    rw [hx] at ex; rw [hy] at ey
    cases hb : slIs E.P t e.size with
    | false => rw [hb] at h; cases h
    | true =>
      rw [hb] at h
      obtain ⟨z, hz, h⟩ := bind_some h
      exact .of _ h (ok_index_d ex ey (slIs_spec hb) (idx_some hz).1 (idx_some hz).2)
  · rename_i m e xs kk n hx hy
    rw [hx] at ex; rw [hy] at ey
    cases hb : arIs E.P t m e.size with
    | false => rw [hb] at h; cases h
    | true =>
      rw [hb] at h
      obtain ⟨z, hz, h⟩ := bind_some h
      exact .of _ h (ok_index_ipArr ex ey (arIs_spec hb) (idx_some hz).1 (idx_some hz).2)
  · rename_i o m kk n hx hy
    rw [hx] at ex; rw [hy] at ey
    split at h
    · rename_i T e m' fz xs ho
      cases hb : Nat.beq m m' && slIs E.P t e.size with
      | false => rw [hb] at h; cases h
      | true =>
        rw [hb] at h
        simp only [Bool.and_eq_true] at hb
        have hm := Nat.eq_of_beq_eq_true hb.1
        subst hm
        obtain ⟨z, hz, h⟩ := bind_some h
        exact .of _ h (ok_index_os ex ho ey (slIs_spec hb.2) (idx_some hz).1 (idx_some hz).2)
    · cases h
  · rename_i o m j q kk n hx hy
    rw [hx] at ex; rw [hy] at ey
    split at h
    · rename_i T e m' fz xs ho
      cases hb : Nat.beq m m' && (slIs E.P t e.size && (decide (0 ≤ n) && decide (n < q))) with
      | false => rw [hb] at h; cases h
      | true =>
        rw [hb] at h
        simp only [Bool.and_eq_true, decide_eq_true_eq] at hb
        have hm := Nat.eq_of_beq_eq_true hb.1
        subst hm
        obtain ⟨z, hz, h⟩ := bind_some h
        exact .of _ h (ok_index_ow ex ho ey (slIs_spec hb.2.1) hb.2.2.1 hb.2.2.2)
    · cases h
  · rename_i o p off kk n hx hy
    rw [hx] at ex; rw [hy] at ey
    split at h
    · rename_i v ho
      obtain ⟨off1, u, h1, h2⟩ := subA_some v p _ r h
      split at h2
      · rename_i m e xs
        cases hb : arIs E.P t m e.size with
        | false => rw [hb] at h2; cases h2
        | true =>
          rw [hb] at h2
          obtain ⟨z, hz, h2⟩ := bind_some h2
          exact .of _ h2 (ok_index_opArr ex ho h1 ey (arIs_spec hb) (idx_some hz).1 (idx_some hz).2 rfl rfl)
      · cases h2
    · cases h
  · cases h

def isStr (P : Program) (t : TypeId) : Bool := match P.underlying t with | some .string => true | _ => false
theorem isStr_spec {P : Program} {t : TypeId} (h : isStr P t = true) : P.underlying t = some .string := by
  unfold isStr at h
  split at h
  · rename_i hm; exact hm
  · cases h

def arE? (E : Env) (t : TypeId) (m : Nat) (e : Ty) : Bool :=
  match E.P.underlying t with
  | some (.array m' T) => Nat.beq m' m && tyIs E.P T e.size e.isAgg && (match lk E.ty t with | some τ => decide (τ = .arr m e) | none => false)
  | _ => false
theorem arE_spec (hE : E.OK) {t : TypeId} {m : Nat} {e : Ty} (h : arE? E t m e = true) : ArE E.P t m e := by
  unfold arE? at h
  split at h
  · rename_i m' T hT
    simp only [Bool.and_eq_true] at h
    obtain ⟨⟨h1, h2⟩, h3⟩ := h
    split at h3
    · rename_i τ hτ
      have := of_decide_eq_true h3
      subst this
      obtain ⟨i, z, g1, g2, g3, g4, g5⟩ := (hE.ty _ (lk_mem hτ)).info
      rw [← Nat.eq_of_beq_eq_true h1] at *
      exact ⟨⟨T, hT, tyIs_spec h2⟩, ⟨i, z, g1, g4, g5⟩⟩
    · cases h3
  · cases h

def opIndex (E : Env) (t : TypeId) (x y : Operand) (s : LSt) (k : E1 → Option R) : Option R :=
  match s.ev E x, s.ev E y with
  | .d .str l, .d (.int _) n => bif isStr E.P t then (sidx l n).bind fun z => k (s.pv (.d (.int .u8) z)) else none
  | .d (.arr m e) xs, .d (.int _) n => bif arE? E t m e then (idx xs n).bind fun z => k (s.pv (.d e z)) else none
  | _, _ => none

theorem opIndex_ok (hE : E.OK) (hΓ : C.Γ = E.gam) {t : TypeId} {x y : Operand} (h : opIndex E t x y s k = some r) : Does E C ⟨dst, .index t x y, ty, pos, aft, gd⟩ s k r := by
  unfold opIndex at h
  have ex := ev_eq hΓ s x
  have ey := ev_eq hΓ s y
  split at h
  · rename_i l kk n hx hy
    rw [hx] at ex; rw [hy] at ey
    cases hb : isStr E.P t with
    | false => rw [hb] at h; cases h
    | true =>
      rw [hb] at h
      obtain ⟨z, hz, h⟩ := bind_some h
      obtain ⟨h0, b, hb2, rfl⟩ := sidx_some hz
      exact .of _ h (ok_index_str ex ey (isStr_spec hb) h0 hb2)
  · rename_i m e xs kk n hx hy
    rw [hx] at ex; rw [hy] at ey
    cases hb : arE? E t m e with
    | false => rw [hb] at h; cases h
    | true =>
      rw [hb] at h
      obtain ⟨z, hz, h⟩ := bind_some h
      exact .of _ h (ok_index_arr ex ey (arE_spec hE hb) hz)
  · cases h

/-! ### cuts -/

def bnd? (E : Env) (s : LSt) (x : Option Operand) (dflt : Int) : Option Int :=
  match x with
  | none => some dflt
  | some x => (match s.ev E x with | .d (.int _) n => some n | _ => none)
theorem bnd_is (hΓ : C.Γ = E.gam) {x : Option Operand} {dflt : Nat} {z : Int} (h : bnd? E s x dflt = some z) (h0 : 0 ≤ z) (hp : Hp) : BndIs C ⟨s.fr.get, hp⟩ x dflt z.toNat := by
  unfold bnd? at h
  split at h
  · cases h; simp [BndIs]
  · rename_i y
    split at h
    · rename_i kk n hn
      cases h
      exact ⟨kk, z, by rw [ev_fz hΓ]; exact hn, h0, rfl⟩
    · cases h

def isZero (E : Env) (s : LSt) (x : Operand) : Bool := match s.ev E x with | .d (.int .i64) n => n == 0 | _ => false
theorem isZero_spec (hΓ : C.Γ = E.gam) {x : Operand} (h : isZero E s x = true) : s.toA.ev C x = .d (.int .i64) 0 := by
  unfold isZero at h
  rw [ev_eq hΓ]
  split at h
  · rename_i n hn
    have : n = 0 := by simpa using h
    rw [hn, this]
  · cases h

theorem ok_slice_nils {P : Program} {s : ASt} {t : TypeId} {x : Operand} {lo hi : Option Operand} {esz : Nat} (hx : s.ev C x = .nils) (ht : SlT P t esz) (hlo : BndIs C s lo 0 0) (hhi : BndIs C s hi 0 0) :
    OpOK P C ⟨dst, .slice t x lo hi none, ty, pos, aft, gd⟩ ⟨dst, .nils, [], []⟩ s :=
  ok_pure fun w im μ hp ρ hr => by
    obtain ⟨hA, hag⟩ := hx ▸ hr x (by simp [Op.operands])
    simp only [RepA] at hA
    have hv := slice_of_cells hA hag
    obtain ⟨et, i, hu, hi', hsz⟩ := ht
    have hb := run_bounds (P := P) w (len := 0) (cap := 0) (bnd_rep hlo (fun o ho => hr o (by subst ho; simp [Op.operands]))) (bnd_rep hhi (fun o ho => hr o (by subst ho; cases lo <;> simp [Op.operands]))) (Nat.le_refl _) (Nat.le_refl _) true
    refine ⟨.slice none 0 0, ?_, ⟨by simp only [RepA, Value.cells], rfl⟩⟩
    simp [execOp, hv, Instr.sliceAt, Instr.slice, run_underlying hu, hb, sizeOf, typeInfo, hi']

/-- x[:k], x given up -/
theorem ok_slice_trunc {P : Program} {s : ASt} {t : TypeId} {x : Operand} {hi : Option Operand} {o n kk : Nat} {T : TypeId} {e : Ty} {xs : List e.den} (hx : s.ev C x = .os o n) (ho : s.hp o = some (.arr T e n false xs)) (ht : SlT P t e.size)
    (hhi : BndIs C s hi xs.length kk) (hk : kk ≤ xs.length) : OpOK P C ⟨dst, .slice t x none hi none, ty, pos, aft, gd⟩ ⟨dst, .os o (n + 1), [], [(o, .arr T e (n + 1) false (xs.take kk))]⟩ s := by
  intro s1 hop hhp im μ a w hi' hd
  have hx1 : s1.ev C x = .os o n := (hop x (by simp [Op.operands])).trans hx
  have ho1 : s1.hp o = some (.arr T e n false xs) := (hhp o (.inr (by simp))).trans ho
  have hh1 : BndIs C s1 hi xs.length kk := by
    cases hi with
    | none => exact hhi
    | some y =>
      obtain ⟨k, z, h1, h2, h3⟩ := hhi
      exact ⟨k, z, (hop y (by simp [Op.operands])).trans h1, h2, h3⟩
  obtain ⟨hr, hag⟩ := hx1 ▸ hi'.ev x
  simp only [RepA] at hr
  obtain ⟨T', e', m', z', xs', ho', hle, u, hc, h1, hpl⟩ := hr
  rw [ho1] at ho'
  cases ho'
  have hpl2 := hpl rfl
  clear hpl
  have hv : a.eval x = u := by
    have : (a.eval x).cells.toList = [u] := hc
    generalize a.eval x = v at this hag
    cases v <;> simp_all [Value.cells, vIsAgg, AV.isAgg]
  obtain ⟨et, i, hu, hi2, hsz⟩ := ht
  have hlt : (xs.take kk).length = kk := by rw [List.length_take]; omega
  have key : ∃ v', (execOp a.eval ⟨dst, .slice t x none hi none, ty, pos, aft, gd⟩).run P w = .ok (.value v') w ∧ v'.oneCell' = true ∧ PlSlice (μ o) kk v' ∧
      ((∃ a, μ o = .nil a ∧ xs.take kk = []) ∨ (false = false ∧ ∃ b cap cells, μ o = .row b cap ∧ w.heap[b]? = some (.cells cells T (0, 0)) ∧ (xs.take kk).length ≤ cap ∧ cap ≤ maxLen ∧ cells.size = cap * e.size ∧ RepL (RepD w im e) (cells.toList.take ((xs.take kk).length * e.size)) (xs.take kk))) := by
    rcases hi'.obj o _ ho1 with ⟨ad, hp', rfl⟩ | ⟨_, b, cap, cells, hp', hb, hcap, hmax, hsz', hl⟩ | ⟨hz, _⟩
    · simp only [List.length_nil, Nat.le_zero] at hk
      subst hk
      rw [hp'] at hpl2 ⊢
      simp only [PlSlice] at hpl2
      subst hpl2
      have hb := run_bounds (P := P) w (lo := none) (len := 0) (cap := 0) rfl (bnd_rep hh1 (fun o _ => hi'.ev o)) (Nat.le_refl _) (Nat.le_refl _) true
      refine ⟨.slice ad 0 0, ?_, rfl, rfl, .inl ⟨ad, rfl, rfl⟩⟩
      simp [execOp, hv, Instr.sliceAt, Instr.slice, run_underlying hu, hb, sizeOf, typeInfo, hi2, hsz]
    · rw [hp'] at hpl2 ⊢
      simp only [PlSlice] at hpl2
      subst hpl2
      have hb2 := run_bounds (P := P) w (lo := none) (len := xs.length) (cap := cap) rfl (bnd_rep hh1 (fun o _ => hi'.ev o)) (Nat.zero_le kk) (by omega) true
      refine ⟨.slice (some ⟨b, 0, none⟩) kk cap, ?_, rfl, rfl, .inr ⟨rfl, b, cap, cells, rfl, hb, by omega, hmax, hsz', ?_⟩⟩
      · by_cases hc0 : cap = 0
        · rw [hc0] at hb2 hv ⊢
          simp [execOp, hv, Instr.sliceAt, Instr.slice, run_underlying hu, hb2, sizeOf, typeInfo, hi2, hsz]
        · simp [execOp, hv, Instr.sliceAt, Instr.slice, run_underlying hu, hb2, sizeOf, typeInfo, hi2, hsz, hc0, addr_add]
      · have := RepL.take (RepD.length e) hl kk
        rw [List.take_take] at this
        rw [hlt]
        rw [Nat.min_eq_left (Nat.mul_le_mul_right _ hk)] at this
        exact this
    · cases hz
  obtain ⟨v', g1, g2, g3, g4⟩ := key
  have hev : ∀ ob, s1.hp o = some ob → ObEv ob (μ o) (.arr T e (n + 1) false (xs.take kk)) (μ o) := by
    intro ob hob
    rw [ho1] at hob
    obtain rfl := Option.some.inj hob
    exact ⟨_, _, _, rfl, .inr (Nat.lt_succ_self _)⟩
  have hw : WStep w w (μ o).blk := ⟨rfl, rfl, rfl, Nat.le_refl _, fun _ _ _ => rfl⟩
  have ev := hi'.evObj hev hw
  refine ⟨v', w, im, _, .inl g1, hi'.obj1 hev hw (fun b hb => ⟨(hi'.sep o b hb).2.1, .inl hb⟩) ?_ hd ?_⟩
  · rcases g4 with ⟨b, h2, h3⟩ | ⟨h0, b, cap, cells, h2, h3, h4, h5, h6, h7⟩
    · exact .inl ⟨b, h2, h3⟩
    · exact .inr (.inl ⟨rfl, b, cap, cells, h2, h3, h4, h5, h6, RepL.mono (RepD.mono ev.fim ev.fheap e) _ _ h7⟩)
  · refine RepV.ofA ?_ (by cases v' <;> simp_all [Value.oneCell', vIsAgg, AV.isAgg])
    simp only [RepA]
    exact ⟨T, e, _, _, _, hpSet_one _ _ _, Nat.le_refl _, v', by rw [(one_cells g2).1], g2, fun _ => by rw [updMu_same, hlt]; exact g3⟩

/-- a window in an array of one's own -/
theorem ok_slice_osw {P : Program} {s : ASt} {t : TypeId} {x : Operand} {lo hi : Option Operand} {o n l h : Nat} {T : TypeId} {e : Ty} {fz : Bool} {xs : List e.den} (hx : s.ev C x = .os o n) (ho : s.hp o = some (.arr T e n fz xs)) (ht : SlT P t e.size)
    (hlo : BndIs C s lo 0 l) (hhi : BndIs C s hi xs.length h) (h1 : l < h) (h2 : h ≤ xs.length) : OpOK P C ⟨dst, .slice t x lo hi none, ty, pos, aft, gd⟩ ⟨dst, .ow o n l (h - l), [o], []⟩ s :=
  ok_read [o] fun w im μ hp ρ hr hk hob => by
    obtain ⟨hA, hag⟩ := hx ▸ hr x (by simp [Op.operands])
    have hpo : hp o = some (.arr T e n fz xs) := (hk o (by simp)).trans ho
    simp only [RepA] at hA
    obtain ⟨T', e', m', z', xs', ho', hle, u, hc, hu1, hpl⟩ := hA
    rw [hpo] at ho'
    cases ho'
    have hpl2 := hpl rfl
    clear hpl
    obtain ⟨et, i, hu, hi', hsz⟩ := ht
    rcases (hob o _ hpo).arr with ⟨ad, hp', rfl⟩ | ⟨b, cap, cs, hp', hcap, _⟩
    · simp at h2; omega
    · have hpl3 : u = .slice (some ⟨b, 0, none⟩) xs.length cap := by rcases hp' with hp' | hp' <;> rw [hp'] at hpl2 <;> exact hpl2
      subst hpl3
      have hv := slice_of_cells hc hag
      have hb := run_bounds (P := P) w (len := xs.length) (cap := cap) (bnd_rep hlo (fun o ho => hr o (by subst ho; simp [Op.operands]))) (bnd_rep hhi (fun o ho => hr o (by subst ho; cases lo <;> simp [Op.operands]))) (Nat.le_of_lt h1) (by omega) true
      have hne : ¬ cap = l := by omega
      refine ⟨.slice (some ⟨b, l * e.size, none⟩) (h - l) (cap - l), w, ?_, rfl, rfl, rfl, rfl, ⟨?_, rfl⟩⟩
      · simp [execOp, hv, Instr.sliceAt, Instr.slice, run_underlying hu, hb, sizeOf, typeInfo, hi', hsz, hne, addr_add]
      · simp only [RepA, Value.cells]
        exact ⟨T, e, n, fz, xs, hpo, Nat.le_refl _, _, rfl, rfl, fun _ => ⟨b, cap, hp', rfl⟩⟩

/-- a window in a window -/
theorem ok_slice_ow {P : Program} {s : ASt} {t : TypeId} {x : Operand} {lo hi : Option Operand} {o n j q l h : Nat} {T : TypeId} {e : Ty} {fz : Bool} {xs : List e.den} (hx : s.ev C x = .ow o n j q) (ho : s.hp o = some (.arr T e n fz xs)) (ht : SlT P t e.size)
    (hlo : BndIs C s lo 0 l) (hhi : BndIs C s hi q h) (h1 : l < h) (h2 : j + h ≤ xs.length) : OpOK P C ⟨dst, .slice t x lo hi none, ty, pos, aft, gd⟩ ⟨dst, .ow o n (j + l) (h - l), [o], []⟩ s :=
  ok_read [o] fun w im μ hp ρ hr hk hob => by
    obtain ⟨hA, hag⟩ := hx ▸ hr x (by simp [Op.operands])
    have hpo : hp o = some (.arr T e n fz xs) := (hk o (by simp)).trans ho
    simp only [RepA] at hA
    obtain ⟨T', e', m', z', xs', ho', hle, u, hc, hu1, hpl⟩ := hA
    rw [hpo] at ho'
    cases ho'
    obtain ⟨b, cap, hp1, rfl⟩ := hpl rfl
    obtain ⟨et, i, hu, hi', hsz⟩ := ht
    rcases (hob o _ hpo).arr with ⟨ad, hp', rfl⟩ | ⟨b', cap', cs, hp', hcap, _⟩
    · simp at h2; omega
    · obtain ⟨rfl, rfl⟩ : b' = b ∧ cap' = cap := by
        rcases hp1 with hp1 | hp1 <;> rcases hp' with hp' | hp' <;> rw [hp1] at hp' <;> cases hp' <;> exact ⟨rfl, rfl⟩
      have hv := slice_of_cells hc hag
      have hb := run_bounds (P := P) w (len := q) (cap := cap' - j) (bnd_rep hlo (fun o ho => hr o (by subst ho; simp [Op.operands]))) (bnd_rep hhi (fun o ho => hr o (by subst ho; cases lo <;> simp [Op.operands]))) (Nat.le_of_lt h1) (by omega) true
      have hne : ¬ cap' - j = l := by omega
      refine ⟨.slice (some ⟨b', (j + l) * e.size, none⟩) (h - l) (cap' - (j + l)), w, ?_, rfl, rfl, rfl, rfl, ⟨?_, rfl⟩⟩
      · simp [execOp, hv, Instr.sliceAt, Instr.slice, run_underlying hu, hb, sizeOf, typeInfo, hi', hsz, hne, addr_add, Nat.add_mul, Nat.sub_sub]
      · simp only [RepA, Value.cells]
        exact ⟨T, e, n, fz, xs, hpo, Nat.le_refl _, _, rfl, rfl, fun _ => ⟨b', cap', hp', rfl⟩⟩

/-- a window's bounds -/
def win (len : Nat) (l h : Int) : Option (Nat × Nat) := bif decide (0 ≤ l) && (decide (l < h) && decide (h ≤ len)) then some (l.toNat, (h - l).toNat) else none
theorem win_some {len : Nat} {l h : Int} {p : Nat × Nat} (hw : win len l h = some p) : 0 ≤ l ∧ l < h ∧ h ≤ len ∧ p = (l.toNat, h.toNat - l.toNat) := by
  unfold win at hw
  cases hb : decide (0 ≤ l) && (decide (l < h) && decide (h ≤ len)) with
  | false => rw [hb] at hw; cases hw
  | true =>
    rw [hb] at hw
    simp only [Bool.and_eq_true, decide_eq_true_eq] at hb
    cases hw
    exact ⟨hb.1, hb.2.1, hb.2.2, by rw [show (h - l).toNat = h.toNat - l.toNat by omega]⟩

/-- where x[l:h] is written through: the text's places -/
def keepAt (pos : String) : Bool := pos == "linear.go:45"

/-- where x[:k] gives up x: the text's places -/
def truncAt (pos : String) : Bool := pos == "slices.go:428"

/-- x[l:h:m] -/
def opSlice3 (E : Env) (t : TypeId) (x : Operand) (lo : Option Operand) (hh mm : Operand) (s : LSt) (k : E1 → Option R) : Option R :=
  let fz := fzAll s.hp (s.ev E x).osl
  match srcA (fz ++ s.hp) (s.ev E x) none with
  | some ⟨e, _⟩ =>
    bif slIs E.P t e.size then
      (match toD (fz ++ s.hp) (s.ev E x) (.slice e), bnd? E s lo 0, bnd? E s (some hh) 0, bnd? E s (some mm) 0 with
      | some ys, some a, some b, some m => bif decide (0 ≤ m) && decide (b ≤ m) && decide (m ≤ ys.length) then (cut ys a b).bind fun zs => k ⟨.d (.slice e) zs, (s.ev E x).osl, fz, s.nx⟩ else none
      | _, _, _, _ => none)
    else none
  | none => none

theorem opSlice3_ok (hΓ : C.Γ = E.gam) {t : TypeId} {x hh mm : Operand} {lo : Option Operand} (h : opSlice3 E t x lo hh mm s k = some r) : Does E C ⟨dst, .slice t x lo (some hh) (some mm), ty, pos, aft, gd⟩ s k r := by
  unfold opSlice3 at h
  simp only at h
  split at h
  · rename_i e xs hs
    cases hb : slIs E.P t e.size with
    | false => rw [hb] at h; cases h
    | true =>
      rw [hb] at h
      simp only [cond_true] at h
      split at h
      · rename_i ys a b m hy ha hb2 hm2
        cases hc : decide (0 ≤ m) && decide (b ≤ m) && decide (m ≤ (ys.length : Int)) with
        | false => rw [hc] at h; cases h
        | true =>
          rw [hc] at h
          simp only [Bool.and_eq_true, decide_eq_true_eq] at hc
          simp only [cond_true] at h
          obtain ⟨zs, hz, h⟩ := bind_some h
          obtain ⟨c1, c2, c3, c4, rfl⟩ := cut_some hz
          refine .frozen (e := ⟨.d (.slice e) ((ys.take b.toNat).drop a.toNat), (s.ev E x).osl, [], s.nx⟩) (s.ev E x).osl h ?_
          have hcd := toD_some hy
          rw [hget_append] at hcd
          exact ok_slice3_F (by rw [ev_fz hΓ]; exact hcd) _ (by rw [ev_fz hΓ]; exact fun _ h => h) (slIs_spec hb) (bnd_is hΓ (dflt := 0) ha c1 _) (bnd_is hΓ (dflt := 0) hb2 c3 _) (bnd_is hΓ (dflt := 0) hm2 hc.1.1 _) (by omega) (by omega) c2 c4
      · cases h
  · cases h

/-- the element type, and is the slice type one of its? -/
def opSlice (E : Env) (tr kp : Bool) (t : TypeId) (x : Operand) (lo hi mx : Option Operand) (s : LSt) (k : E1 → Option R) : Option R :=
  match mx with
  | none =>
    (match s.ev E x with
    | .nils => bif (match E.P.underlying t with | some (.slice e) => (match E.P.info? e with | some _ => true | none => false) | _ => false) then
        (match bnd? E s lo 0 with
        | some a => (match bnd? E s hi 0 with | some b => bif (a == 0) && (b == 0) then k (s.pv .nils) else none | none => none)
        | none => none)
      else none
    | .d .str l =>
      bif isStr E.P t then
        (match bnd? E s lo 0 with
        | some a => (match bnd? E s hi l.length with | some b => (cut l a b).bind fun zs => k (s.pv (.d .str zs)) | none => none)
        | none => none)
      else none
    | .d (.slice e) xs =>
      bif slIs E.P t e.size then
        (match bnd? E s lo 0 with
        | some a => (match bnd? E s hi xs.length with | some b => (cut xs a b).bind fun zs => k (s.pv (.d (.slice e) zs)) | none => none)
        | none => none)
      else none
    | .os o n =>
      bif tr then
        (match lo with
        | some _ => none
        | none =>
          (match hget s.hp o with
          | some (.arr T e m false xs) =>
            bif Nat.beq n m && slIs E.P t e.size then
              (match bnd? E s hi xs.length with
              | some b => (cut xs 0 b).bind fun zs => k ⟨.os o (n + 1), [], [(o, .arr T e (n + 1) false zs)], s.nx⟩
              | none => none)
            else none
          | _ => none))
      else bif kp then
        (match hget s.hp o with
        | some (.arr _ e m _ xs) =>
          bif Nat.beq n m && slIs E.P t e.size then
            (match bnd? E s lo 0 with
            | some a => (match bnd? E s hi xs.length with | some b => (win xs.length a b).bind fun p => k (s.pr (.ow o n p.1 p.2) [o]) | none => none)
            | none => none)
          else none
        | _ => none)
      else
      let fz := fzAll s.hp [o]
      (match hget (fz ++ s.hp) o with
      | some (.arr _ e m true xs) =>
        bif Nat.beq n m && slIs E.P t e.size then
          (match bnd? E s lo 0 with
          | some a => (match bnd? E s hi xs.length with | some b => (cut xs a b).bind fun zs => k ⟨.d (.slice e) zs, [o], fz, s.nx⟩ | none => none)
          | none => none)
        else none
      | _ => none)
    | .ow o n j q =>
      (match hget s.hp o with
      | some (.arr _ e m _ xs) =>
        bif Nat.beq n m && slIs E.P t e.size then
          (match bnd? E s lo 0 with
          | some a => (match bnd? E s hi q with | some b => (win q a b).bind fun p => bif Nat.ble (j + q) xs.length then k (s.pr (.ow o n (j + p.1) p.2) [o]) else none | none => none)
          | none => none)
        else none
      | _ => none)
    | _ => none)
  | some m =>
    (match hi with
    | none => none
    | some h =>
      bif isZero E s h && isZero E s m then
        (match lo with
        | some _ => none
        | none =>
          (match E.P.underlying t with
          | some (.slice T) => (match srcA s.hp (s.ev E x) (lk E.ty T) with | some ⟨e, _⟩ => bif slIs E.P t e.size then k (s.pr .emp (s.ev E x).objs) else none | none => none)
          | _ => none))
      else opSlice3 E t x lo h m s k)

theorem opSlice_ok (hΓ : C.Γ = E.gam) {tr kp : Bool} {t : TypeId} {x : Operand} {lo hi mx : Option Operand} (h : opSlice E tr kp t x lo hi mx s k = some r) : Does E C ⟨dst, .slice t x lo hi mx, ty, pos, aft, gd⟩ s k r := by
  unfold opSlice at h
  have ex := ev_eq hΓ s x
  split at h
  · split at h
    · rename_i hx
      rw [hx] at ex
      cases hb : (match E.P.underlying t with | some (.slice e) => (match E.P.info? e with | some _ => true | none => false) | _ => false) with
      | false => rw [hb] at h; cases h
      | true =>
        rw [hb] at h
        simp only [cond_true] at h
        split at h
        · rename_i a ha
          split at h
          · rename_i b hb2
            cases hab : (a == 0) && (b == 0) with
            | false => rw [hab] at h; cases h
            | true =>
              rw [hab] at h
              simp only [Bool.and_eq_true, beq_iff_eq] at hab
              obtain ⟨rfl, rfl⟩ := hab
              split at hb
              · rename_i e he
                split at hb
                · rename_i i hi'
                  exact .of _ h (ok_slice_nils ex ⟨e, i, he, hi', rfl⟩ (bnd_is hΓ (dflt := 0) ha (Int.le_refl 0) _) (bnd_is hΓ (dflt := 0) hb2 (Int.le_refl 0) _))
                · cases hb
              · cases hb
          · cases h
        · cases h
    · rename_i l hx
      rw [hx] at ex
      cases hb : isStr E.P t with
      | false => rw [hb] at h; cases h
      | true =>
        rw [hb] at h
        simp only [cond_true] at h
        split at h
        · rename_i a ha
          split at h
          · rename_i b hb2
            obtain ⟨zs, hz, h⟩ := bind_some h
            obtain ⟨c1, c2, c3, c4, rfl⟩ := cut_some hz
            exact .of _ h (ok_slice_str ex (isStr_spec hb) (bnd_is hΓ (dflt := 0) ha c1 _) (bnd_is hΓ hb2 c3 _) c2 c4)
          · cases h
        · cases h
    · rename_i e xs hx
      rw [hx] at ex
      cases hb : slIs E.P t e.size with
      | false => rw [hb] at h; cases h
      | true =>
        rw [hb] at h
        simp only [cond_true] at h
        split at h
        · rename_i a ha
          split at h
          · rename_i b hb2
            obtain ⟨zs, hz, h⟩ := bind_some h
            obtain ⟨c1, c2, c3, c4, rfl⟩ := cut_some hz
            exact .of _ h (ok_slice_d ex (slIs_spec hb) (bnd_is hΓ (dflt := 0) ha c1 _) (bnd_is hΓ hb2 c3 _) c2 c4)
          · cases h
        · cases h
    · rename_i o n hx
      cases htr : tr with
      | true =>
        rw [htr] at h
        simp only [cond_true] at h
        rw [hx] at ex
        split at h
        · cases h
        · split at h
          · rename_i T e m xs ho
            cases hb : Nat.beq n m && slIs E.P t e.size with
            | false => rw [hb] at h; cases h
            | true =>
              rw [hb] at h
              simp only [Bool.and_eq_true] at hb
              have hm := Nat.eq_of_beq_eq_true hb.1
              subst hm
              simp only [cond_true] at h
              split at h
              · rename_i b hb2
                obtain ⟨zs, hz, h⟩ := bind_some h
                obtain ⟨c1, c2, c3, c4, rfl⟩ := cut_some hz
                have := ok_slice_trunc (dst := dst) (ty := ty) (pos := pos) (aft := aft) (gd := gd) ex ho (slIs_spec hb.2) (bnd_is hΓ hb2 c3 _) c4
                rw [show (xs.take b.toNat).drop (0 : Int).toNat = xs.take b.toNat from rfl] at h
                exact .of _ h this
              · cases h
          · cases h
      | false =>
      rw [htr] at h
      simp only [cond_false] at h
      cases hkp : kp with
      | true =>
        rw [hkp] at h
        simp only [cond_true] at h
        rw [hx] at ex
        split at h
        · rename_i T e m fz xs ho
          cases hb : Nat.beq n m && slIs E.P t e.size with
          | false => rw [hb] at h; cases h
          | true =>
            rw [hb] at h
            simp only [Bool.and_eq_true] at hb
            have hm := Nat.eq_of_beq_eq_true hb.1
            subst hm
            simp only [cond_true] at h
            split at h
            · rename_i a ha
              split at h
              · rename_i b hb2
                obtain ⟨p, hz, h⟩ := bind_some h
                obtain ⟨c1, c2, c3, rfl⟩ := win_some hz
                exact .of _ h (ok_slice_osw ex ho (slIs_spec hb.2) (bnd_is hΓ (dflt := 0) ha c1 _) (bnd_is hΓ hb2 (by omega) _) (by omega) (by omega))
              · cases h
            · cases h
        · cases h
      | false =>
      rw [hkp] at h
      simp only [cond_false] at h
      split at h
      · rename_i T e m xs ho
        cases hb : Nat.beq n m && slIs E.P t e.size with
        | false => rw [hb] at h; cases h
        | true =>
          rw [hb] at h
          simp only [Bool.and_eq_true] at hb
          have hm := Nat.eq_of_beq_eq_true hb.1
          subst hm
          simp only [cond_true] at h
          split at h
          · rename_i a ha
            split at h
            · rename_i b hb2
              obtain ⟨zs, hz, h⟩ := bind_some h
              obtain ⟨c1, c2, c3, c4, rfl⟩ := cut_some hz
              refine .frozen (e := ⟨.d (.slice e) ((xs.take b.toNat).drop a.toNat), [o], [], s.nx⟩) [o] h ?_
              rw [hget_append] at ho
              exact ok_slice_F (by rw [ev_fz hΓ, hx]; exact .os ho) _ (by rw [ev_fz hΓ, hx]; exact fun _ h => h) (slIs_spec hb.2) (bnd_is hΓ (dflt := 0) ha c1 _) (bnd_is hΓ hb2 c3 _) c2 c4
            · cases h
          · cases h
      · cases h
    · rename_i o n j q hx
      rw [hx] at ex
      split at h
      · rename_i T e m fz xs ho
        cases hb : Nat.beq n m && slIs E.P t e.size with
        | false => rw [hb] at h; cases h
        | true =>
          rw [hb] at h
          simp only [Bool.and_eq_true] at hb
          have hm := Nat.eq_of_beq_eq_true hb.1
          subst hm
          simp only [cond_true] at h
          split at h
          · rename_i a ha
            split at h
            · rename_i b hb2
              obtain ⟨p, hz, h⟩ := bind_some h
              obtain ⟨c1, c2, c3, rfl⟩ := win_some hz
              cases hb3 : Nat.ble (j + q) xs.length with
              | false => rw [hb3] at h; cases h
              | true =>
                rw [hb3] at h
                have := Nat.le_of_ble_eq_true hb3
                exact .of _ h (ok_slice_ow ex ho (slIs_spec hb.2) (bnd_is hΓ (dflt := 0) ha c1 _) (bnd_is hΓ hb2 (by omega) _) (by omega) (by omega))
            · cases h
          · cases h
      · cases h
    · cases h
  · rename_i m
    split at h
    · cases h
    · rename_i hh
      cases hb : isZero E s hh && isZero E s m with
      | false => rw [hb] at h; exact opSlice3_ok hΓ h
      | true =>
        rw [hb] at h
        simp only [cond_true] at h
        simp only [Bool.and_eq_true] at hb
        split at h
        · cases h
        · split at h
          · rename_i T hT
            split at h
            · rename_i e xs hs
              cases hb3 : slIs E.P t e.size with
              | false => rw [hb3] at h; cases h
              | true =>
                rw [hb3] at h
                exact .of _ h (ok_slice_emp ex (srcA_some hs) (slIs_spec hb3) rfl (isZero_spec hΓ hb.1) (isZero_spec hΓ hb.2))
            · cases h
          · cases h

/-! ### make, append, len, min, max -/

def sameOp : Operand → Operand → Bool
  | .tmp a, .tmp b => Nat.beq a b
  | _, _ => false
theorem sameOp_spec {x y : Operand} (h : sameOp x y = true) : x = y := by
  unfold sameOp at h
  split at h
  · rw [Nat.eq_of_beq_eq_true h]
  · cases h

def opMake (E : Env) (t : TypeId) (x y : Operand) (s : LSt) (k : E1 → Option R) : Option R :=
  match elT? E t, s.ev E x, s.ev E y with
  | some (T, e), .d (.int _) n, .d (.int _) n' => bif sameOp x y || n == n' then (mk n (zden e)).bind fun l => free? s.hp s.nx (k ⟨.os s.nx 0, [], [(s.nx, .arr T e 0 false l)], s.nx + 1⟩) else none
  | _, _, _ => none

theorem opMake_ok (hE : E.OK) (hΓ : C.Γ = E.gam) {d : Nat} {t : TypeId} {x y : Operand} (h : opMake E t x y s k = some r) : Does E C ⟨some d, .makeSlice t x y, ty, pos, aft, gd⟩ s k r := by
  unfold opMake at h
  have ex := ev_eq hΓ s x
  have ey := ev_eq hΓ s y
  split at h
  · rename_i T e k1 n k2 n' hT hx hy
    rw [hx] at ex; rw [hy] at ey
    cases hb : sameOp x y || n == n' with
    | false => rw [hb] at h; cases h
    | true =>
      rw [hb] at h
      obtain ⟨l, hl, h⟩ := bind_some h
      obtain ⟨h0, h⟩ := free_some h
      obtain ⟨m1, m2, rfl⟩ := mk_some hl
      have hn : n' = n := by
        simp only [Bool.or_eq_true, beq_iff_eq] at hb
        rcases hb with hb | hb
        · have := sameOp_spec hb
          subst this
          rw [hx] at hy; cases hy; rfl
        · exact hb.symm
      subst hn
      exact .of _ h (ok_makeSlice (elT_some hE hT) h0 ex ey m1 m2)
  · cases h

def castL (e e' : Ty) (xs : List e.den) : Option (List e'.den) := if h : e = e' then some (h ▸ xs) else none

theorem ok_cap_nil {P : Program} {s : ASt} {x : Operand} {t : TypeId} {T : TypeId} (hx : s.ev C x = .nils ∨ s.ev C x = .emp) (ht : P.underlying t = some (.slice T)) :
    OpOK P C ⟨dst, .call ⟨.builtin .cap, #[x], #[t]⟩, ty, pos, aft, gd⟩ ⟨dst, .d (.int .i64) 0, [], []⟩ s :=
  ok_pure fun w im μ hp ρ h => by
    obtain ⟨ad, hv⟩ : ∃ ad, ρ x = .slice ad 0 0 := by
      have hrx := h x (by simp [Op.operands, Call.operands])
      rcases hx with hx | hx <;> rw [hx] at hrx <;> obtain ⟨hr, hag⟩ := hrx <;> simp only [RepA] at hr
      · exact ⟨none, slice_of_cells hr hag⟩
      · obtain ⟨ad, hr⟩ := hr; exact ⟨ad, slice_of_cells hr hag⟩
    refine ⟨.int .i64 0, ?_, ⟨by simp [RepA, RepD, Value.cells], rfl⟩⟩
    simp [execOp, resolve, invoke, builtin, hv, Builtin.cap_, run_underlying ht, goInt]

theorem ok_append_zeros {P : Program} {s : ASt} {d : Tmp} {o : Nat} {t T tn : TypeId} {x y : Operand} {e : Ty} {kn kq : IntKind} {n : Int} (ht : ElT P t T e) (htn : P.underlying tn = some (.int kn)) (h0 : s.hp o = none) (hx : s.ev C x = .nils) (hy : s.ev C y = .d (.int kq) n)
    (hn0 : 0 < n) (hn : n ≤ lim) : OpOK P C ⟨some d, .call ⟨.builtin .append, #[x, y], #[t, tn]⟩, ty, pos, aft, gd⟩ ⟨some d, .os o 0, [], [(o, .arr T e 0 false (List.replicate n.toNat (zden e)))]⟩ s := by
  intro s1 hop hhp im μ a w hi hd
  have hx1 : s1.ev C x = .nils := (hop x (by simp [Op.operands, Call.operands])).trans hx
  have h01 : s1.hp o = none := (hhp o (.inr (by simp))).trans h0
  have e2 := int_eq (((hop y (by simp [Op.operands, Call.operands])).trans hy) ▸ hi.ev y)
  obtain ⟨hr, hag⟩ := hx1 ▸ hi.ev x
  simp only [RepA] at hr
  have hv := slice_of_cells hr hag
  obtain ⟨i, z, hi1, hi2, hi3, hz1, hz2⟩ := ht.info
  obtain ⟨m, rfl⟩ := Int.eq_ofNat_of_zero_le (Int.le_of_lt hn0)
  have hm : m ≤ 4294967296 := by unfold lim at hn; omega
  have hm0 : 0 < m := by omega
  have hzsz : z.cells.size = e.size := by rw [← Array.length_toList, hz2, (zcells_rep (default : World) (fun _ => True) e).length]
  have hbytes : m * i.bytes ≤ 4294967296 * 4096 := Nat.mul_le_mul hm hi3
  have hrun := Go.Lib.run_append_grow_zeros (P := P) w t tn ty T i z kq kn ht.und htn hi1 hz1 none 0 0 [] (run_firstCells_none _ _ _ _ _) m hm0 (by rw [hi2]; exact ht.pos) (by omega) (by omega) (by omega) (growslice_fits (by omega) (by rw [Nat.zero_add]; omega))
  simp only [Nat.zero_add] at hrun
  have hge := grownCap_ge w m 0 T
  have hcm := grownCap_le_maxLen w m 0 T (by unfold maxLen; omega)
  have hzc := zero_cells_eq hz2 m
  have hfl : (Builtin.zeroCells z.cells m).toList = (List.replicate m (zcells e)).flatten := by
    rw [← hzc]; unfold Builtin.zeroCells; rw [hzsz]
  have hrep := RepL.replicate (zcells_rep w im e) m
  have hlen := hrep.length (RepD.length e)
  have hnew := hi.newArr (w1 := w.drew) rfl rfl rfl rfl (hd d rfl) h01 (cells := (#[] ++ Builtin.zeroCells z.cells m ++ Builtin.zeroCells z.cells (grownCap w m 0 T - m))) (T := T) (e := e) (xs := List.replicate m (zden e)) (cap := grownCap w m 0 T) (by simpa using hge) hcm (by
      simp only [Array.size_append, size_zeroCells, hzsz, ← Nat.add_mul, Array.size_empty, Nat.zero_add]
      congr 1
      omega) (by
      simp only [Array.toList_append, hfl, List.nil_append]
      rw [← hlen, List.take_left]
      exact hrep)
  rw [List.length_replicate] at hnew
  refine ⟨_, _, im, _, .inl ?_, hnew⟩
  simp only [execOp, resolve, invoke, builtin, Sem.run_bind, Sem.run_pure, Result.andThen_ok, List.map_toArray, List.map_cons, List.map_nil, hv, e2, hrun]

def opCap (E : Env) (t : TypeId) (x : Operand) (s : LSt) (k : E1 → Option R) : Option R :=
  match E.P.underlying t with
  | some (.slice _) => (match s.ev E x with | .nils => k (s.pv (.d (.int .i64) 0)) | .emp => k (s.pv (.d (.int .i64) 0)) | _ => none)
  | _ => none
theorem opCap_ok (hΓ : C.Γ = E.gam) {t : TypeId} {x : Operand} (h : opCap E t x s k = some r) : Does E C ⟨dst, .call ⟨.builtin .cap, #[x], #[t]⟩, ty, pos, aft, gd⟩ s k r := by
  unfold opCap at h
  have ex := ev_eq hΓ s x
  split at h
  · rename_i T hT
    split at h
    · rename_i hx; exact .of _ h (ok_cap_nil (.inl (ex.trans hx)) hT)
    · rename_i hx; exact .of _ h (ok_cap_nil (.inr (ex.trans hx)) hT)
    · cases h
  · cases h

def opAppendZ (E : Env) (t tn : TypeId) (x y : Operand) (s : LSt) (k : E1 → Option R) : Option R :=
  match E.P.underlying tn with
  | some (.int _) =>
    (match elT? E t with
    | some (T, e) =>
      (match s.ev E x, s.ev E y with
      | .nils, .d (.int _) n => bif decide (0 < n) && decide (n ≤ lim) then free? s.hp s.nx (k ⟨.os s.nx 0, [], [(s.nx, .arr T e 0 false (List.replicate n.toNat (zden e)))], s.nx + 1⟩) else none
      | _, _ => none)
    | none => none)
  | _ => none
theorem opAppendZ_ok (hE : E.OK) (hΓ : C.Γ = E.gam) {d : Tmp} {t tn : TypeId} {x y : Operand} (h : opAppendZ E t tn x y s k = some r) : Does E C ⟨some d, .call ⟨.builtin .append, #[x, y], #[t, tn]⟩, ty, pos, aft, gd⟩ s k r := by
  unfold opAppendZ at h
  have ex := ev_eq hΓ s x
  have ey := ev_eq hΓ s y
  split at h
  · rename_i kn hn
    split at h
    · rename_i T e hT
      split at h
      · rename_i kk n hx hy
        rw [hx] at ex; rw [hy] at ey
        cases hb : decide (0 < n) && decide (n ≤ (lim : Int)) with
        | false => rw [hb] at h; cases h
        | true =>
          rw [hb] at h
          simp only [Bool.and_eq_true, decide_eq_true_eq] at hb
          obtain ⟨h0, h⟩ := free_some h
          exact .of _ h (ok_append_zeros (elT_some hE hT) hn h0 ex ey hb.1 hb.2)
      · cases h
    · cases h
  · cases h

def opAppend (E : Env) (t t2 : TypeId) (x y : Operand) (s : LSt) (k : E1 → Option R) : Option R :=
  bif Nat.beq t t2 then
    (match elT? E t with
    | some (T, e) =>
      (match srcE s.hp (s.ev E y) e with
      | some ys =>
        (match s.ev E x with
        | .nils => (app [] ys).bind fun zs => free? s.hp s.nx (k ⟨.os s.nx 0, (s.ev E y).objs, [(s.nx, .arr T e 0 false zs)], s.nx + 1⟩)
        | .emp => (app [] ys).bind fun zs => free? s.hp s.nx (k ⟨.os s.nx 0, (s.ev E y).objs, [(s.nx, .arr T e 0 false zs)], s.nx + 1⟩)
        | .os o n =>
          (match hget s.hp o with
          | some (.arr T' e' m false xs) =>
            bif Nat.beq T T' && Nat.beq n m then
              (match castL e' e xs with
              | some xs => (app xs ys).bind fun zs => k ⟨.os o (n + 1), (s.ev E y).objs, [(o, .arr T e (n + 1) false zs)], s.nx⟩
              | none => none)
            else none
          | _ => none)
        | _ => none)
      | none => none)
    | none => none)
  else none

theorem opAppend_ok (hE : E.OK) (hΓ : C.Γ = E.gam) {t t2 : TypeId} {x y : Operand} (h : opAppend E t t2 x y s k = some r) : Does E C ⟨dst, .call ⟨.builtin .append, #[x, y], #[t, t2]⟩, ty, pos, aft, gd⟩ s k r := by
  unfold opAppend at h
  have ex := ev_eq hΓ s x
  have ey := ev_eq hΓ s y
  cases hb : Nat.beq t t2 with
  | false => rw [hb] at h; cases h
  | true =>
    rw [hb] at h
    have := Nat.eq_of_beq_eq_true hb
    subst this
    simp only [cond_true] at h
    split at h
    · rename_i T e hT
      split at h
      · rename_i ys hys
        have hsrc := srcE_some hys
        split at h
        · rename_i hx
          rw [hx] at ex
          obtain ⟨zs, hz, h⟩ := bind_some h
          obtain ⟨h0, h⟩ := free_some h
          obtain ⟨a1, rfl⟩ := app_some hz
          exact .of _ h (ok_append_new (elT_some hE hT) h0 (.inl ex) ey hsrc (by simpa using a1))
        · rename_i hx
          rw [hx] at ex
          obtain ⟨zs, hz, h⟩ := bind_some h
          obtain ⟨h0, h⟩ := free_some h
          obtain ⟨a1, rfl⟩ := app_some hz
          exact .of _ h (ok_append_new (elT_some hE hT) h0 (.inr ex) ey hsrc (by simpa using a1))
        · rename_i o n hx
          rw [hx] at ex
          split at h
          · rename_i T' e' m xs ho
            cases hb2 : Nat.beq T T' && Nat.beq n m with
            | false => rw [hb2] at h; cases h
            | true =>
              rw [hb2] at h
              simp only [Bool.and_eq_true] at hb2
              have h1 := Nat.eq_of_beq_eq_true hb2.1
              have h2 := Nat.eq_of_beq_eq_true hb2.2
              subst h1 h2
              simp only [cond_true] at h
              unfold castL at h
              by_cases he : e' = e
              · subst he
                simp only [dite_true] at h
                obtain ⟨zs, hz, h⟩ := bind_some h
                obtain ⟨a1, rfl⟩ := app_some hz
                exact .of _ h (ok_append_os (elT_some hE hT) ex ho ey hsrc a1)
              · rw [dif_neg he] at h; cases h
          · cases h
        · cases h
      · cases h
    · cases h

def opLen (E : Env) (t : TypeId) (x : Operand) (s : LSt) (k : E1 → Option R) : Option R :=
  match s.ev E x with
  | .d .str l => bif isStr E.P t then k (s.pv (.d (.int .i64) (l.length : Int))) else none
  | a =>
    (match E.P.underlying t with
    | some (.slice T) => (match srcA s.hp a (lk E.ty T) with | some ⟨e, xs⟩ => bif slIs E.P t e.size then k (s.pr (.d (.int .i64) (xs.length : Int)) a.objs) else none | none => none)
    | _ => none)

theorem opLen_ok (hΓ : C.Γ = E.gam) {t : TypeId} {x : Operand} (h : opLen E t x s k = some r) : Does E C ⟨dst, .call ⟨.builtin .len, #[x], #[t]⟩, ty, pos, aft, gd⟩ s k r := by
  unfold opLen at h
  have ex := ev_eq hΓ s x
  split at h
  · rename_i l hx
    rw [hx] at ex
    cases hb : isStr E.P t with
    | false => rw [hb] at h; cases h
    | true => rw [hb] at h; exact .of _ h (ok_len_str ex (isStr_spec hb))
  · split at h
    · rename_i T hT
      split at h
      · rename_i e xs hs
        cases hb : slIs E.P t e.size with
        | false => rw [hb] at h; cases h
        | true => rw [hb] at h; exact .of _ h (ok_len_slice ex (srcA_some hs) (slIs_spec hb))
      · cases h
    · cases h

def opMax (E : Env) (x y : Operand) (s : LSt) (k : E1 → Option R) : Option R :=
  match s.ev E x, s.ev E y with
  | .d (.int k1) a, .d (.int _) b => k (s.pv (.d (.int k1) (if b > a then b else a)))
  | _, _ => none
theorem opMax_ok (hΓ : C.Γ = E.gam) {ts : Array TypeId} {x y : Operand} (h : opMax E x y s k = some r) : Does E C ⟨dst, .call ⟨.builtin .max, #[x, y], ts⟩, ty, pos, aft, gd⟩ s k r := by
  unfold opMax at h
  have ex := ev_eq hΓ s x
  have ey := ev_eq hΓ s y
  split at h
  · rename_i k1 a k2 b hx hy
    rw [hx] at ex; rw [hy] at ey
    exact .of _ h (ok_max ex ey)
  · cases h
def opMin (E : Env) (x y : Operand) (s : LSt) (k : E1 → Option R) : Option R :=
  match s.ev E x, s.ev E y with
  | .d (.int k1) a, .d (.int _) b => k (s.pv (.d (.int k1) (if b < a then b else a)))
  | _, _ => none
theorem opMin_ok (hΓ : C.Γ = E.gam) {ts : Array TypeId} {x y : Operand} (h : opMin E x y s k = some r) : Does E C ⟨dst, .call ⟨.builtin .min, #[x, y], ts⟩, ty, pos, aft, gd⟩ s k r := by
  unfold opMin at h
  have ex := ev_eq hΓ s x
  have ey := ev_eq hΓ s y
  split at h
  · rename_i k1 a k2 b hx hy
    rw [hx] at ex; rw [hy] at ey
    exact .of _ h (ok_min ex ey)
  · cases h

/-! ### putting together -/

def places? (P : Program) : List Field → Option (List (Nat × Nat))
  | [] => some []
  | f :: l => match P.info? f.type with | some i => (match places? P l with | some r => some ((f.offset, i.size) :: r) | none => none) | none => none

theorem places_some {P : Program} : ∀ {l : List Field} {ps : List (Nat × Nat)}, places? P l = some ps → l.length = ps.length ∧ ∀ (i : Nat) (f : Field) (p : Nat × Nat), l[i]? = some f → ps[i]? = some p → f.offset = p.1 ∧ ∃ inf, P.info? f.type = some inf ∧ inf.size = p.2
  | [], ps, h => by cases h; exact ⟨rfl, fun i f p hf => by simp at hf⟩
  | f :: l, ps, h => by
    simp only [places?] at h
    split at h
    · rename_i i hi
      split at h
      · rename_i rr hr
        cases h
        obtain ⟨h1, h2⟩ := places_some hr
        refine ⟨by simp [h1], fun j f' p hf hp => ?_⟩
        cases j with
        | zero =>
          simp only [List.getElem?_cons_zero, Option.some.injEq] at hf hp
          subst hf hp
          exact ⟨rfl, i, hi, rfl⟩
        | succ j => exact h2 j f' p (by simpa using hf) (by simpa using hp)
      · cases h
    · cases h

def bld (E : Env) (s : LSt) (ps : List (Nat × Nat)) : List (Nat × Operand) → AV → (AV → Option R) → Option R
  | [], v, k => k v
  | (i, x) :: l, v, k =>
    bif (s.ev E x).plain then
      (match ps[i]? with
      | some (off, sz) => bif Nat.beq (s.ev E x).asize sz then setA v [i] (s.ev E x) (fun off' v' => bif Nat.beq off' off then bld E s ps l v' k else none) else none
      | none => none)
    else none

theorem bld_some (hΓ : C.Γ = E.gam) {ps : List (Nat × Nat)} : ∀ {l : List (Nat × Operand)} {v : AV} {k : AV → Option R}, bld E s ps l v k = some r → ∃ v', BuildA C s.toA ps l v v' ∧ k v' = some r
  | [], v, k, h => ⟨v, .nil, h⟩
  | (i, x) :: l, v, k, h => by
    simp only [bld] at h
    cases hp : (s.ev E x).plain with
    | false => rw [hp] at h; cases h
    | true =>
      rw [hp] at h
      simp only [cond_true] at h
      split at h
      · rename_i off sz hps
        cases hz : Nat.beq (s.ev E x).asize sz with
        | false => rw [hz] at h; cases h
        | true =>
          rw [hz] at h
          obtain ⟨off', v', h1, h2⟩ := setA_some v [i] _ _ r h
          cases hb : Nat.beq off' off with
          | false => rw [hb] at h2; cases h2
          | true =>
            rw [hb] at h2
            obtain ⟨v'', h3, h4⟩ := bld_some hΓ h2
            exact ⟨v'', .cons (ev_eq hΓ s x) hp hps (Nat.eq_of_beq_eq_true hz) h1 (Nat.eq_of_beq_eq_true hb) h3, h4⟩
      · cases h

/-- the parts of an array -/
def partsS (E : Env) (s : LSt) (e : Ty) (n : Nat) : List (Nat × Operand) → Option (List (Nat × e.den))
  | [] => some []
  | (i, x) :: l => bif Nat.blt i n then (match s.ev E x with | .d τ y => (if h : τ = e then (match partsS E s e n l with | some r => some ((i, h ▸ y) :: r) | none => none) else none) | _ => none) else none

theorem partsS_some {e : Ty} {n : Nat} : ∀ {l : List (Nat × Operand)} {ys : List (Nat × e.den)}, partsS E s e n l = some ys → l.length = ys.length ∧ ∀ (k i : Nat) (x : Operand), l[k]? = some (i, x) → ∃ y, ys[k]? = some (i, y) ∧ s.ev E x = .d e y ∧ i < n
  | [], ys, h => by cases h; exact ⟨rfl, fun k i x hk => by simp at hk⟩
  | (i, x) :: l, ys, h => by
    simp only [partsS] at h
    cases hb : Nat.blt i n with
    | false => rw [hb] at h; cases h
    | true =>
      rw [hb] at h
      simp only [cond_true] at h
      split at h
      · rename_i τ y hy
        split at h
        · rename_i he
          subst he
          split at h
          · rename_i rr hr
            cases h
            obtain ⟨h1, h2⟩ := partsS_some hr
            refine ⟨by simp [h1], fun k j u hk => ?_⟩
            cases k with
            | zero =>
              simp only [List.getElem?_cons_zero, Option.some.injEq, Prod.mk.injEq] at hk
              obtain ⟨rfl, rfl⟩ := hk
              exact ⟨y, rfl, hy, Nat.le_of_ble_eq_true hb⟩
            | succ k => exact h2 k j u (by simpa using hk)
          · cases h
        · cases h
      · cases h

def opBuild (E : Env) (t : TypeId) (parts : Array (Nat × Operand)) (s : LSt) (k : E1 → Option R) : Option R :=
  match E.P.underlying t, lk E.ty t with
  | some (.struct fs), some τ =>
    (match places? E.P fs.toList with
    | some ps => bld E s ps parts.toList (zeroN τ) (fun v => bif v.isAgg then k (s.pv v) else none)
    | none => none)
  | some (.array _ _), some (.arr n e) => bif arE? E t n e then (match partsS E s e n parts.toList with | some ys => k (s.pv (.d (.arr n e) (setAll (List.replicate n (zden e)) ys))) | none => none) else none
  | _, _ => none

theorem opBuild_ok (hE : E.OK) (hΓ : C.Γ = E.gam) {t : TypeId} {parts : Array (Nat × Operand)} (h : opBuild E t parts s k = some r) : Does E C ⟨dst, .build t parts, ty, pos, aft, gd⟩ s k r := by
  unfold opBuild at h
  split at h
  · rename_i fs τ hu hτ
    split at h
    · rename_i ps hps
      obtain ⟨v, h1, h2⟩ := bld_some hΓ h
      obtain ⟨i, z, g1, g2, g3, g4, g5⟩ := (hE.ty _ (lk_mem hτ)).info
      cases hv : v.isAgg with
      | false => rw [hv] at h2; cases h2
      | true =>
        rw [hv] at h2
        exact .of _ h2 (ok_build ⟨fs, hu, (places_some hps).1, (places_some hps).2⟩ ⟨i, z, g1, g4, g5⟩ h1 hv)
    · cases h
  · rename_i T m n e hu hτ
    cases hb : arE? E t n e with
    | false => rw [hb] at h; cases h
    | true =>
      rw [hb] at h
      simp only [cond_true] at h
      split at h
      · rename_i ys hys
        obtain ⟨h1, h2⟩ := partsS_some hys
        exact .of _ h (ok_buildArr (arE_spec hE hb) h1 fun k i x hk => by
          obtain ⟨y, g1, g2, g3⟩ := h2 k i x hk
          have ex := ev_eq hΓ s x
          exact ⟨y, g1, by rw [← g2]; exact ex, g3⟩)
      · cases h
  · cases h

def partsD (E : Env) (hp : LHp) (s : LSt) (e : Ty) (n : Nat) : List (Nat × Operand) → Option (List (Nat × e.den))
  | [] => some []
  | (i, x) :: l => bif Nat.blt i n then (match toD hp (s.ev E x) e with | some y => (match partsD E hp s e n l with | some r => some ((i, y) :: r) | none => none) | none => none) else none

theorem partsD_some {hp : LHp} {e : Ty} {n : Nat} : ∀ {l : List (Nat × Operand)} {ys : List (Nat × e.den)}, partsD E hp s e n l = some ys → l.length = ys.length ∧ ∀ (k i : Nat) (x : Operand), l[k]? = some (i, x) → ∃ y, ys[k]? = some (i, y) ∧ CoeF (hget hp) (s.ev E x) e y ∧ i < n
  | [], ys, h => by cases h; exact ⟨rfl, fun k i x hk => by simp at hk⟩
  | (i, x) :: l, ys, h => by
    simp only [partsD] at h
    cases hb : Nat.blt i n with
    | false => rw [hb] at h; cases h
    | true =>
      rw [hb] at h
      simp only [cond_true] at h
      split at h
      · rename_i y hy
        split at h
        · rename_i rr hr
          cases h
          obtain ⟨h1, h2⟩ := partsD_some hr
          refine ⟨by simp [h1], fun k j x' hk => ?_⟩
          cases k with
          | zero =>
            simp only [List.getElem?_cons_zero, Option.some.injEq, Prod.mk.injEq] at hk
            obtain ⟨rfl, rfl⟩ := hk
            exact ⟨y, rfl, toD_some hy, Nat.le_of_ble_eq_true hb⟩
          | succ k => simpa using h2 k j x' (by simpa using hk)
        · cases h
      · cases h

def oslAll (E : Env) (s : LSt) : List (Nat × Operand) → List Nat
  | [] => []
  | (_, x) :: l => (s.ev E x).osl ++ oslAll E s l
theorem oslAll_mem {x : Operand} : ∀ {l : List (Nat × Operand)} {k i : Nat}, l[k]? = some (i, x) → ∀ o ∈ (s.ev E x).osl, o ∈ oslAll E s l
  | [], _, _, h, _, _ => by simp at h
  | (j, y) :: l, 0, i, h, o, ho => by
    simp only [List.getElem?_cons_zero, Option.some.injEq, Prod.mk.injEq] at h
    obtain ⟨rfl, rfl⟩ := h
    simp [oslAll, ho]
  | (j, y) :: l, k + 1, i, h, o, ho => by
    simp only [oslAll, List.mem_append]
    exact .inr (oslAll_mem (by simpa using h) o ho)

def opLit (E : Env) (t : TypeId) (n : Nat) (parts : Array (Nat × Operand)) (s : LSt) (k : E1 → Option R) : Option R :=
  match elT? E t with
  | some (T, e) =>
    bif Nat.beq n 0 && parts.toList.isEmpty then k (s.pv .emp) else
      let ol := oslAll E s parts.toList
      let fz := fzAll s.hp ol
      (match partsD E (fz ++ s.hp) s e n parts.toList with
      | some ys => bif Nat.ble (n * e.size) (2 ^ 24) then free? (fz ++ s.hp) s.nx (k ⟨.os s.nx 0, ol, [(s.nx, .arr T e 0 false (setAll (List.replicate n (zden e)) ys))] ++ fz, s.nx + 1⟩) else none
      | none => none)
  | none => none

theorem opLit_ok (hE : E.OK) (hΓ : C.Γ = E.gam) {d : Nat} {t : TypeId} {n : Nat} {parts : Array (Nat × Operand)} (h : opLit E t n parts s k = some r) : Does E C ⟨some d, .buildSlice t n parts, ty, pos, aft, gd⟩ s k r := by
  unfold opLit at h
  split at h
  · rename_i T e hT
    cases hb0 : Nat.beq n 0 && parts.toList.isEmpty with
    | true =>
      rw [hb0] at h
      simp only [Bool.and_eq_true] at hb0
      have hn := Nat.eq_of_beq_eq_true hb0.1
      subst hn
      have hp : parts = #[] := by apply Array.ext'; simpa using hb0.2
      subst hp
      exact .of _ h (ok_lit0 (elT_some hE hT))
    | false =>
      rw [hb0] at h
      simp only at h
      split at h
      · rename_i ys hys
        cases hb : Nat.ble (n * e.size) (2 ^ 24) with
        | false => rw [hb] at h; cases h
        | true =>
          rw [hb] at h
          obtain ⟨h0, h⟩ := free_some h
          obtain ⟨g1, g2⟩ := partsD_some hys
          refine .frozen (e := ⟨.os s.nx 0, oslAll E s parts.toList, [(s.nx, .arr T e 0 false (setAll (List.replicate n (zden e)) ys))], s.nx + 1⟩) (oslAll E s parts.toList) h ?_
          rw [hget_append] at h0 g2
          exact ok_buildSliceF _ (elT_some hE hT) h0 (Nat.le_of_ble_eq_true hb) g1 (fun k i x hk => by
            obtain ⟨y, y1, y2, y3⟩ := g2 k i x hk
            exact ⟨y, y1, by rw [ev_fz hΓ]; exact y2, by rw [ev_fz hΓ]; exact oslAll_mem hk, y3⟩) rfl
      · cases h
  · cases h

/-! ### the rest -/

def opExtract (E : Env) (x : Operand) (i : Nat) (s : LSt) (k : E1 → Option R) : Option R :=
  match s.ev E x with
  | .tup l => (match l[i]? with | some a => k (s.pv a) | none => none)
  | _ => none
theorem opExtract_ok (hΓ : C.Γ = E.gam) {x : Operand} {i : Nat} (h : opExtract E x i s k = some r) : Does E C ⟨dst, .extract x i, ty, pos, aft, gd⟩ s k r := by
  unfold opExtract at h
  have ex := ev_eq hΓ s x
  split at h
  · rename_i l hx
    rw [hx] at ex
    split at h
    · rename_i a ha
      exact .of _ h (ok_extract ex ha)
    · cases h
  · cases h

def evs (E : Env) (s : LSt) : List Operand → List AV
  | [] => []
  | x :: l => s.ev E x :: evs E s l
theorem evs_map (hΓ : C.Γ = E.gam) : ∀ l : List Operand, l.map (s.toA.ev C) = evs E s l
  | [] => rfl
  | x :: l => by simp only [List.map_cons, evs, ev_eq hΓ, evs_map hΓ l]

def plains (l : List AV) : Bool := l.all AV.plain

def opFunc (E : Env) (f : Fn) (first cap : Array Operand) (s : LSt) (k : E1 → Option R) : Option R :=
  match first.toList with
  | [] => bif plains (evs E s cap.toList) then k (s.pv (.fn f [] (evs E s cap.toList))) else none
  | _ => none
theorem opFunc_ok (hΓ : C.Γ = E.gam) {f : Fn} {first cap : Array Operand} (h : opFunc E f first cap s k = some r) : Does E C ⟨dst, .makeFunc f first cap, ty, pos, aft, gd⟩ s k r := by
  unfold opFunc at h
  split at h
  · rename_i hf
    have : first = #[] := by apply Array.ext'; simpa using hf
    subst this
    cases hb : plains (evs E s cap.toList) with
    | false => rw [hb] at h; cases h
    | true =>
      rw [hb] at h
      exact .of _ h (ok_makeFunc (evs_map hΓ _) (fun a ha => List.all_eq_true.1 hb a ha))
  · cases h

def noIf (P : Program) (t : TypeId) : Bool := match P.underlying t with | some (.interface _) => false | some _ => true | none => false
theorem noIf_spec {P : Program} {t : TypeId} (h : noIf P t = true) : NoIf P t := by
  unfold noIf at h
  split at h
  · cases h
  · rename_i d hd hn
    exact ⟨d, hn, by split <;> simp_all⟩
  · cases h

def opIface (E : Env) (t : TypeId) (x : Operand) (s : LSt) (k : E1 → Option R) : Option R :=
  bif (s.ev E x).plain && noIf E.P t then k (s.pv (.iface t (s.ev E x))) else none
theorem opIface_ok (hΓ : C.Γ = E.gam) {t : TypeId} {x : Operand} (h : opIface E t x s k = some r) : Does E C ⟨dst, .makeInterface t x, ty, pos, aft, gd⟩ s k r := by
  unfold opIface at h
  cases hb : (s.ev E x).plain && noIf E.P t with
  | false => rw [hb] at h; cases h
  | true =>
    rw [hb] at h
    simp only [Bool.and_eq_true] at hb
    exact .of _ h (ok_makeIface (ev_eq hΓ s x) hb.1 (noIf_spec hb.2))

def opAssert (E : Env) (x : Operand) (t : TypeId) (ok : Bool) (s : LSt) (k : E1 → Option R) : Option R :=
  match s.ev E x, ok with
  | .iface t' (.d (.int kk) n), true => bif Nat.beq t' t && noIf E.P t then k (s.pv (.tup [.d (.int kk) n, .d .bool true])) else none
  | _, _ => none
theorem opAssert_ok (hΓ : C.Γ = E.gam) {x : Operand} {xt t : TypeId} {ok : Bool} (h : opAssert E x t ok s k = some r) : Does E C ⟨dst, .typeAssert x xt t ok, ty, pos, aft, gd⟩ s k r := by
  unfold opAssert at h
  have ex := ev_eq hΓ s x
  split at h
  · rename_i t' kk n hx
    rw [hx] at ex
    cases hb : Nat.beq t' t && noIf E.P t with
    | false => rw [hb] at h; cases h
    | true =>
      rw [hb] at h
      simp only [Bool.and_eq_true] at hb
      have := Nat.eq_of_beq_eq_true hb.1
      subst this
      exact .of _ h (ok_typeAssert ex (noIf_spec hb.2))
  · cases h

theorem ok_nilCheck_oe {P : Program} {s : ASt} {x : Operand} {o m i : Nat} {T : TypeId} {e : Ty} {fz : Bool} {xs : List e.den} (hx : s.ev C x = .oe o m i) (ho : s.hp o = some (.arr T e m fz xs)) : OpOK P C ⟨dst, .nilCheck x, ty, pos, aft, gd⟩ ⟨dst, .oe o m i, [o], []⟩ s :=
  ok_read [o] fun w im μ hp ρ h hk hob => by
    have hr0 : RepV w im μ hp (.oe o m i) (ρ x) := hx ▸ h x (by simp [Op.operands])
    have hr1 := hr0
    obtain ⟨hr, hag⟩ := hr1
    have hpo : hp o = some (.arr T e m fz xs) := (hk o (by simp)).trans ho
    simp only [RepA] at hr
    obtain ⟨T', e', m', z', xs', ho', hle, u, hc, h1, hpl⟩ := hr
    rw [hpo] at ho'
    cases ho'
    obtain ⟨b, cap, hp1, rfl⟩ := hpl rfl
    have hv : ρ x = .pointer (some ⟨b, i * e.size, none⟩) := by
      generalize ρ x = v at hc hag
      cases v <;> simp_all [Value.cells, vIsAgg, AV.isAgg]
    exact ⟨ρ x, w, by simp [execOp, hv], rfl, rfl, rfl, rfl, hr0⟩

def opNil (E : Env) (x : Operand) (s : LSt) (k : E1 → Option R) : Option R :=
  match s.ev E x with
  | .op o p off => k (s.pv (.op o p off))
  | .ip τ y => k (s.pv (.ip τ y))
  | .oe o m i => (match hget s.hp o with | some (.arr _ _ m' _ _) => bif Nat.beq m m' then k (s.pr (.oe o m i) [o]) else none | _ => none)
  | _ => none
theorem opNil_ok (hΓ : C.Γ = E.gam) {x : Operand} (h : opNil E x s k = some r) : Does E C ⟨dst, .nilCheck x, ty, pos, aft, gd⟩ s k r := by
  unfold opNil at h
  have ex := ev_eq hΓ s x
  split at h
  · rename_i o p off hx
    rw [hx] at ex
    exact .of _ h (ok_nilCheck_op ex)
  · rename_i τ y hx
    rw [hx] at ex
    exact .of _ h (ok_nilCheck_ip ex)
  · rename_i o m i hx
    rw [hx] at ex
    split at h
    · rename_i T e m' fz xs ho
      cases hb : Nat.beq m m' with
      | false => rw [hb] at h; cases h
      | true =>
        rw [hb] at h
        have := Nat.eq_of_beq_eq_true hb
        subst this
        exact .of _ h (ok_nilCheck_oe ex ho)
    · cases h
  · cases h

end
end Go.Vm
namespace Go.Vm

variable {R : Type}

mutual
def AV.refs : AV → List Nat
  | .op o _ _ => [o]
  | .os o _ => [o]
  | .oe o _ _ => [o]
  | .ow o _ _ _ => [o]
  | .pr a b => a.refs ++ b.refs
  | .fn _ first cap => refsL first ++ refsL cap
  | .iface _ v => v.refs
  | .tup l => refsL l
  | .ref o => [o]
  | _ => []
def refsL : List AV → List Nat
  | [] => []
  | a :: l => a.refs ++ refsL l
end

def refsE : List (List UInt8 × AV) → List Nat
  | [] => []
  | (_, a) :: l => a.refs ++ refsE l
def refsF : List (Nat × AV) → List Nat
  | [] => []
  | (_, a) :: l => a.refs ++ refsF l
def ARec.refs : ARec → List Nat
  | .map l => refsE l
  | .loop _ fr _ => refsF fr

/-- the objects that are met from these on -/
def reach (hp : LHp) : Nat → List Nat → List Nat → List Nat
  | 0, _, seen => seen
  | _ + 1, [], seen => seen
  | n + 1, o :: todo, seen =>
    bif seen.any (Nat.beq o) then reach hp n todo seen else
      match hget hp o with
      | some (.box v) => reach hp n (v.refs ++ todo) (o :: seen)
      | some (.arr _ _ _ _ _) => reach hp n todo (o :: seen)
      | some (.rc r) => reach hp n (r.refs ++ todo) (o :: seen)
      | none => reach hp n todo seen

def verIn (hp : LHp) (o : Nat) : VMap := match hget hp o with | some (.arr _ _ m _ _) => .reset m | _ => .keep
def verOut (hp : LHp) (o : Nat) : VMap := match hget hp o with | some (.arr _ _ m _ _) => .shift m | _ => .keep

def renP (hp : LHp) (σ : Sg) : Sg → Option LHp
  | [] => some []
  | (o, o', φ) :: r =>
    match hget hp o with
    | some ob => (match ob.ren σ φ with | some ob' => (match renP hp σ r with | some l => some ((o', ob') :: l) | none => none) | none => none)
    | none => none

theorem renP_cons {hp : LHp} {σ : Sg} {o o' : Nat} {φ : VMap} {r : Sg} {l : LHp} (h : renP hp σ ((o, o', φ) :: r) = some l) : ∃ ob ob' l', hget hp o = some ob ∧ ob.ren σ φ = some ob' ∧ renP hp σ r = some l' ∧ l = (o', ob') :: l' := by
  simp only [renP] at h
  split at h
  · rename_i ob hob
    split at h
    · rename_i ob' hob'
      split at h
      · rename_i l' hl'
        cases h
        exact ⟨ob, ob', l', hob, hob', hl', rfl⟩
      · cases h
    · cases h
  · cases h

theorem Sg.inv_of_get' : ∀ {σ : Sg} {o o' : Nat} {φ : VMap}, σ.get o = some (o', φ) → ∃ p, σ.inv o' = some p
  | [], _, _, _, h => by cases h
  | (a, b, ψ) :: r, o, o', φ, h => by
    simp only [Sg.get] at h
    simp only [Sg.inv]
    cases hb : Nat.beq o' b with
    | true => exact ⟨a, rfl⟩
    | false =>
      cases ha : Nat.beq o a with
      | true => rw [ha] at h; cases h; rw [Nat.beq_refl] at hb; cases hb
      | false => rw [ha] at h; exact Sg.inv_of_get' h

theorem renP_get {hp : LHp} {σ : Sg} : ∀ {σ0 : Sg} {l : LHp}, renP hp σ σ0 = some l → σ0.good = true → ∀ {o o' : Nat} {φ : VMap}, σ0.get o = some (o', φ) → ∃ ob ob', hget hp o = some ob ∧ ob.ren σ φ = some ob' ∧ hget l o' = some ob'
  | [], _, _, _, _, _, _, h => by cases h
  | (a, b, ψ) :: r, l, h, hg, o, o', φ, hget' => by
    obtain ⟨ob, ob', l', h1, h2, h3, rfl⟩ := renP_cons h
    simp only [Sg.good, Bool.and_eq_true] at hg
    obtain ⟨⟨g1, g2⟩, g3⟩ := hg
    simp only [Sg.get] at hget'
    cases ha : Nat.beq o a with
    | true =>
      rw [ha] at hget'
      cases hget'
      rw [Nat.eq_of_beq_eq_true ha]
      exact ⟨ob, ob', h1, h2, by simp [hget]⟩
    | false =>
      rw [ha] at hget'
      obtain ⟨o1, o2, k1, k2, k3⟩ := renP_get h3 g3 hget'
      refine ⟨o1, o2, k1, k2, ?_⟩
      simp only [hget]
      cases hb : Nat.beq b o' with
      | false => exact k3
      | true =>
        obtain ⟨p, hp'⟩ := Sg.inv_of_get' hget'
        rw [Nat.eq_of_beq_eq_true hb, hp'] at g2; cases g2

theorem renP_none {hp : LHp} {σ : Sg} : ∀ {σ0 : Sg} {l : LHp}, renP hp σ σ0 = some l → ∀ {o' : Nat}, σ0.inv o' = none → hget l o' = none
  | [], l, h, o', _ => by cases h; rfl
  | (a, b, ψ) :: r, l, h, o', hi => by
    obtain ⟨ob, ob', l', h1, h2, h3, rfl⟩ := renP_cons h
    simp only [Sg.inv] at hi
    cases hb : Nat.beq o' b with
    | true => rw [hb] at hi; cases hi
    | false =>
      rw [hb] at hi
      have hne : Nat.beq b o' = false := by
        have := beq_ne hb
        rw [← Bool.not_eq_true]; intro h; exact this (Nat.eq_of_beq_eq_true h).symm
      simp only [hget, hne, cond_false]
      exact renP_none h3 hi

theorem mem_hget : ∀ {l : LHp} {o : Nat}, o ∈ l.map (·.1) → ∃ ob, hget l o = some ob
  | [], _, h => by cases h
  | (a, ob) :: r, o, h => by
    simp only [hget]
    cases hb : Nat.beq a o with
    | true => exact ⟨ob, rfl⟩
    | false =>
      simp only [List.map_cons, List.mem_cons] at h
      rcases h with rfl | h
      · rw [Nat.beq_refl] at hb; cases hb
      · exact mem_hget h
theorem hget_mem : ∀ {l : LHp} {o : Nat} {ob : AObj}, hget l o = some ob → o ∈ l.map (·.1)
  | [], _, _, h => by cases h
  | (a, ob') :: r, o, ob, h => by
    simp only [hget] at h
    cases hb : Nat.beq a o with
    | true => rw [Nat.eq_of_beq_eq_true hb]; simp
    | false => rw [hb] at h; simp [hget_mem h]

theorem hpSet_of_hget {hp : Hp} {wr : LHp} {o : Nat} {ob : AObj} (h : hget wr o = some ob) : hpSet hp wr o = some ob := by
  rw [hget_find] at h
  unfold hpSet
  split at h
  · rename_i p hp'; rw [hp']; exact h
  · cases h

theorem handed_of {hp h0 : LHp} {σ : Sg} (hg : σ.good = true) (h : renP hp σ σ = some h0) : Handed σ (hget hp) (hget h0) :=
  ⟨hg, fun o o' φ hh => by
    obtain ⟨ob, ob', h1, h2, h3⟩ := renP_get h hg hh
    exact ⟨ob, ob', h1, h2, h3⟩, fun o' hi => renP_none h hi⟩

/-! ### calls -/

def sgIn (hp : LHp) : List Nat → Nat → Sg
  | [], _ => []
  | o :: l, i => (o, i, verIn hp o) :: sgIn hp l (i + 1)
def sgOut (hp : LHp) : List Nat → Nat → Sg
  | [], _ => []
  | o :: l, i => (i, o, verOut hp o) :: sgOut hp l (i + 1)
/-- the objects that are new behind a call -/
def sgNew (k nx : Nat) : LHp → Sg
  | [] => []
  | (j, _) :: r => bif Nat.blt j k then sgNew k nx r else (j, nx + (j - k), .keep) :: sgNew k nx r
def freeAll (hp : LHp) : Sg → Bool
  | [] => true
  | (_, o, _) :: r => (match hget hp o with | none => true | some _ => false) && freeAll hp r

theorem sgIn_out (hp : LHp) : ∀ (L : List Nat) (i : Nat) (o o' : Nat) (φ : VMap), (sgIn hp L i).get o = some (o', φ) → i ≤ o' ∧ (sgOut hp L i).get o' = some (o, verOut hp o) ∧ φ = verIn hp o
  | [], _, _, _, _, h => by cases h
  | a :: L, i, o, o', φ, h => by
    simp only [sgIn, Sg.get] at h
    cases hb : Nat.beq o a with
    | true =>
      rw [hb] at h
      cases h
      have := Nat.eq_of_beq_eq_true hb
      subst this
      exact ⟨Nat.le_refl _, by simp [sgOut, Sg.get], rfl⟩
    | false =>
      rw [hb] at h
      obtain ⟨h1, h2, h3⟩ := sgIn_out hp L (i + 1) o o' φ h
      refine ⟨by omega, ?_, h3⟩
      simp only [sgOut, Sg.get]
      have : Nat.beq o' i = false := by rw [← Bool.not_eq_true]; intro h; have := Nat.eq_of_beq_eq_true h; omega
      rw [this]; exact h2

theorem sgOut_in (hp : LHp) : ∀ (L : List Nat) (i : Nat) (o o' : Nat) (φ : VMap), (sgOut hp L i).get o' = some (o, φ) → (sgIn hp L i).inv o' = some o
  | [], _, _, _, _, h => by cases h
  | a :: L, i, o, o', φ, h => by
    simp only [sgOut, Sg.get] at h
    simp only [sgIn, Sg.inv]
    cases hb : Nat.beq o' i with
    | true => rw [hb] at h; cases h; rfl
    | false => rw [hb] at h; exact sgOut_in hp L (i + 1) o o' φ h

theorem sgIn_inv (hp : LHp) : ∀ (L : List Nat) (i : Nat) (o' : Nat), i + L.length ≤ o' → (sgIn hp L i).inv o' = none
  | [], _, _, _ => rfl
  | a :: L, i, o', h => by
    simp only [List.length_cons] at h
    simp only [sgIn, Sg.inv]
    have : Nat.beq o' i = false := by rw [← Bool.not_eq_true]; intro h; have := Nat.eq_of_beq_eq_true h; omega
    rw [this]; exact sgIn_inv hp L (i + 1) o' (by omega)

theorem Sg.get_append : ∀ (a b : Sg) (o : Nat), (a ++ b : Sg).get o = (match a.get o with | some x => some x | none => b.get o)
  | [], _, _ => rfl
  | (x, y) :: a, b, o => by
    simp only [List.cons_append, Sg.get]
    cases Nat.beq o x with
    | true => rfl
    | false => exact Sg.get_append a b o

theorem sgNew_get (k nx : Nat) : ∀ (l : LHp) (j o : Nat) (φ : VMap), (sgNew k nx l).get j = some (o, φ) → k ≤ j
  | [], _, _, _, h => by cases h
  | (a, ob) :: r, j, o, φ, h => by
    simp only [sgNew] at h
    cases hb : Nat.blt a k with
    | true => rw [hb] at h; exact sgNew_get k nx r j o φ h
    | false =>
      rw [hb] at h
      simp only [cond_false, Sg.get] at h
      cases hc : Nat.beq j a with
      | true =>
        have h1 := Nat.eq_of_beq_eq_true hc
        subst h1
        rcases Nat.lt_or_ge j k with h2 | h2
        · have : Nat.blt j k = true := Nat.ble_eq_true_of_le h2
          rw [this] at hb; cases hb
        · exact h2
      | false => rw [hc] at h; exact sgNew_get k nx r j o φ h

theorem freeAll_get {hp : LHp} : ∀ {σ : Sg}, freeAll hp σ = true → ∀ {j o : Nat} {φ : VMap}, σ.get j = some (o, φ) → hget hp o = none
  | [], _, _, _, _, h => by cases h
  | (a, b, ψ) :: r, hf, j, o, φ, h => by
    simp only [freeAll, Bool.and_eq_true] at hf
    simp only [Sg.get] at h
    cases hb : Nat.beq j a with
    | true =>
      rw [hb] at h; cases h
      cases hh : hget hp b with
      | none => rfl
      | some ob => rw [hh] at hf; cases hf.1
    | false => rw [hb] at h; exact freeAll_get hf.2 h

theorem ver_back {hp : LHp} {o m v : Nat} (h : (verIn hp o).app m = some v) : (verOut hp o).app v = some m := by
  unfold verIn at h
  unfold verOut
  cases hh : hget hp o with
  | none => rw [hh] at h; cases h; rfl
  | some ob =>
    cases ob with
    | box u => rw [hh] at h; cases h; rfl
    | rc u => rw [hh] at h; cases h; rfl
    | arr T e k z xs =>
      rw [hh] at h
      simp only [VMap.app] at h ⊢
      cases hb : Nat.beq m k with
      | false => rw [hb] at h; cases h
      | true =>
        rw [hb] at h; cases h
        rw [Nat.eq_of_beq_eq_true hb]; rfl

/-- right for function f -/
structure FnE.OK (P : Program) (Γ : Nat → Option AV) (f : FuncId) (g : FnE) : Prop where
  eq : ∀ {R : Type} (args : List AV) (hs : LHp) (k : AEnd → LHp → Option R), g.run args hs k = (g.run args hs fun a h => some (a, h)).bind fun p => k p.1 p.2
  ok : ∀ (args : List AV) (hs : LHp) (ae : AEnd) (hs' : LHp), g.run args hs (fun a h => some (a, h)) = some (ae, hs') → FnH P Γ f args (hget hs) (fun ae' h1 => ae' = ae ∧ h1 = hget hs')

theorem FnE.OK.nat {P : Program} {Γ : Nat → Option AV} {f : FuncId} {g : FnE} (h : FnE.OK P Γ f g) {R : Type} (args : List AV) (hs : LHp) (k : AEnd → LHp → Option R) (r : R) (e : g.run args hs k = some r) : ∃ ae hs', g.run args hs (fun a h => some (a, h)) = some (ae, hs') ∧ k ae hs' = some r := by
  rw [h.eq] at e
  obtain ⟨p, h1, h2⟩ := bind_some e
  exact ⟨p.1, p.2, h1, h2⟩

structure ExtE.OK (P : Program) (f : FuncId) (g : ExtE) : Prop where
  eq : ∀ {R : Type} (args : List AV) (k : AV → Option R), g.run args k = (g.run args some).bind k
  ok : ∀ {R : Type} (args : List AV) (k : AV → Option R) (r : R), g.run args k = some r → ∃ av, k av = some r ∧
    ∀ (w : World) (im : Nat → Prop) (μ : Mu) (hp : Hp) (vals : List Value), vals.length = args.length → (∀ (i : Nat) (a : AV) (v : Value), args[i]? = some a → vals[i]? = some v → RepV w im μ hp a v) →
      ∃ v w', (callFunc f vals.toArray).run P w = .ok (.value v) w' ∧ w'.heap = w.heap ∧ w'.os = w.os ∧ w'.tape = w.tape ∧ w'.output = w.output ∧ RepV w im μ hp av v

structure RoundE.OK (P : Program) (Γ : Nat → Option AV) (g : RoundE) : Prop where
  eq : ∀ {R : Type} (o : Nat) (args : List AV) (hs : LHp) (k : Bool → LHp → Option R), g.run o args hs k = (g.run o args hs fun a h => some (a, h)).bind fun p => k p.1 p.2
  ok : ∀ (o : Nat) (args : List AV) (hs : LHp) (c : Bool) (hs' : LHp), g.run o args hs (fun a h => some (a, h)) = some (c, hs') → RoundH P Γ o args (hget hs) (fun c' h1 => c' = c ∧ h1 = hget hs')

theorem RoundE.OK.nat {P : Program} {Γ : Nat → Option AV} {g : RoundE} (h : RoundE.OK P Γ g) {R : Type} (o : Nat) (args : List AV) (hs : LHp) (k : Bool → LHp → Option R) (r : R) (e : g.run o args hs k = some r) : ∃ c hs', g.run o args hs (fun a h => some (a, h)) = some (c, hs') ∧ k c hs' = some r := by
  rw [h.eq] at e
  obtain ⟨p, h1, h2⟩ := bind_some e
  exact ⟨p.1, p.2, h1, h2⟩

structure Env.Good (E : Env) : Prop extends Env.OK E where
  gf : ∀ g v, E.gam g = some v → v.free = true
  calls : ∀ p ∈ E.calls, FnE.OK E.P E.gam p.1 p.2
  exts : ∀ p ∈ E.exts, ExtE.OK E.P p.1 p.2
  round : ∀ g, E.round = some g → RoundE.OK E.P E.gam g

def manyFuel : Nat := 1000000

def callE (g : FnE) (args : List AV) (s : LSt) (k : E1 → Option R) (kp : TypeId → Int → LHp → Option R) : Option R :=
  let L := reach s.hp manyFuel (refsL args) []
  let σ := sgIn s.hp L 0
  bif σ.good then
    (match rens σ args with
    | some args' =>
      (match renP s.hp σ σ with
      | some hs => g.run args' hs fun ae hs' =>
        let nw := sgNew L.length s.nx hs'
        let σ' := sgOut s.hp L 0 ++ nw
        bif σ'.good && freeAll s.hp nw then
          (match renP hs' σ' σ' with
          | some wr =>
            (match ae with
            | .ret rs => (match rens σ' rs with | some rs' => k ⟨retAV rs', [], wr, s.nx + hs'.length⟩ | none => none)
            | .panic t n => kp t n wr)
          | none => none)
        else none
      | none => none)
    | none => none)
  else none

theorem back_of {hp : LHp} {L : List Nat} {nx : Nat} {hs' wr : LHp} (hc : (sgOut hp L 0 ++ sgNew L.length nx hs' : Sg).good = true) (hf : freeAll hp (sgNew L.length nx hs') = true)
    (hwr : renP hs' (sgOut hp L 0 ++ sgNew L.length nx hs') (sgOut hp L 0 ++ sgNew L.length nx hs') = some wr) :
    Back (sgIn hp L 0) (sgOut hp L 0 ++ sgNew L.length nx hs') (hget hp) (hget hs') wr := by
  refine ⟨hc, ?_, ?_, ?_, ?_⟩
  · intro o' o φ hh
    obtain ⟨ob, ob', h1, h2, h3⟩ := renP_get hwr hc hh
    exact ⟨ob, ob', h1, h2, hpSet_of_hget h3⟩
  · intro o o' φ hh
    obtain ⟨_, h2, h3⟩ := sgIn_out hp L 0 o o' φ hh
    refine ⟨_, by rw [Sg.get_append, h2], fun m v hm => ver_back (by rw [← h3]; exact hm)⟩
  · intro o' o φ hh
    rw [Sg.get_append] at hh
    cases h1 : (sgOut hp L 0).get o' with
    | some p =>
      rw [h1] at hh
      cases hh
      exact .inl (sgOut_in hp L 0 o o' φ h1)
    | none =>
      rw [h1] at hh
      have := sgNew_get _ _ _ _ _ _ hh
      exact .inr ⟨sgIn_inv hp L 0 o' (by omega), freeAll_get hf hh⟩
  · intro o hm
    obtain ⟨ob, hob⟩ := mem_hget hm
    cases hi : (sgOut hp L 0 ++ sgNew L.length nx hs' : Sg).inv o with
    | none => rw [renP_none hwr hi] at hob; cases hob
    | some o' =>
      obtain ⟨φ, hφ⟩ := Sg.get_of_inv hc hi
      exact ⟨o', φ, hφ⟩


/-- what a call's coming through says -/
theorem callE_some {P : Program} {Γ : Nat → Option AV} {f : FuncId} {g : FnE} {args : List AV} {s : LSt} {k : E1 → Option R} {kp : TypeId → Int → LHp → Option R} {r : R} (hg : FnE.OK P Γ f g) (h : callE g args s k kp = some r) :
    ∃ σ σ' args' hs ae hs' wr, rens σ args = some args' ∧ Handed σ (hget s.hp) (hget hs) ∧ FnH P Γ f args' (hget hs) (fun ae' h1 => ae' = ae ∧ h1 = hget hs') ∧ Back σ σ' (hget s.hp) (hget hs') wr ∧ (∀ o' o φ, σ'.get o' = some (o, φ) → o ∈ wr.map (·.1)) ∧
      ((∃ rs rs', ae = .ret rs ∧ rens σ' rs = some rs' ∧ k ⟨retAV rs', [], wr, s.nx + hs'.length⟩ = some r) ∨ (∃ t n, ae = .panic t n ∧ kp t n wr = some r)) := by
  unfold callE at h
  generalize hL : reach s.hp manyFuel (refsL args) [] = L at h
  simp only at h
  cases hgood : (sgIn s.hp L 0).good with
  | false => rw [hgood] at h; cases h
  | true =>
    rw [hgood] at h
    simp only [cond_true] at h
    split at h
    · rename_i args' hargs
      split at h
      · rename_i hs hhs
        obtain ⟨ae, hs', hrun, hk⟩ := hg.nat _ _ _ _ h
        have hF := hg.ok _ _ _ _ hrun
        cases hc : (sgOut s.hp L 0 ++ sgNew L.length s.nx hs' : Sg).good && freeAll s.hp (sgNew L.length s.nx hs') with
        | false => rw [hc] at hk; cases hk
        | true =>
          rw [hc] at hk
          simp only [Bool.and_eq_true] at hc
          simp only [cond_true] at hk
          split at hk
          · rename_i wr hwr
            refine ⟨_, _, args', hs, ae, hs', wr, hargs, handed_of hgood hhs, hF, back_of hc.1 hc.2 hwr, (fun o' o φ hh => by
              obtain ⟨ob, ob', h1, h2, h3⟩ := renP_get hwr hc.1 hh
              exact hget_mem h3), ?_⟩
            cases ae with
            | ret rs =>
              simp only at hk
              split at hk
              · rename_i rs' hrs
                exact .inl ⟨rs, rs', rfl, hrs, hk⟩
              · cases hk
            | panic t n => exact .inr ⟨t, n, rfl, hk⟩
          · cases hk
      · cases h
    · cases h

def opYield (g : RoundE) (q : Nat) (args : List AV) (s : LSt) (k : E1 → Option R) : Option R :=
  match hget s.hp q with
  | some (.rc r0) =>
    bif r0.isMap then none else
    let L := reach s.hp manyFuel (refsL (.ref q :: args)) []
    let σ := sgIn s.hp L 0
    bif σ.good then
      (match rens σ (.ref q :: args) with
      | some (.ref o' :: args') =>
        (match renP s.hp σ σ with
        | some hs => g.run o' args' hs fun c hs' =>
          let nw := sgNew L.length s.nx hs'
          let σ' := sgOut s.hp L 0 ++ nw
          bif σ'.good && freeAll s.hp nw then
            (match renP hs' σ' σ' with
            | some wr => k ⟨.d .bool c, [], wr, s.nx + hs'.length⟩
            | none => none)
          else none
        | none => none)
      | _ => none)
    else none
  | _ => none

theorem opYield_ok {E : Env} {C : Ctx} {s : LSt} {k : E1 → Option R} {r : R} (hE : E.Good) (hΓ : C.Γ = E.gam) {o : Oper} {x : Operand} {xs : Array Operand} {at' : Array TypeId} {q : Nat} {g : RoundE} (ho : o.op = .call ⟨.value x, xs, at'⟩)
    (hx : s.ev E x = .ref q) (hg : RoundE.OK E.P E.gam g) (h : opYield g q (evs E s xs.toList) s k = some r) : Does E C o s k r := by
  unfold opYield at h
  split at h
  · rename_i r0 hq
    cases hm : r0.isMap with
    | true => rw [hm] at h; cases h
    | false =>
      rw [hm] at h
      simp only [cond_false] at h
      generalize hL : reach s.hp manyFuel (refsL (.ref q :: evs E s xs.toList)) [] = L at h
      cases hgood : (sgIn s.hp L 0).good with
      | false => rw [hgood] at h; cases h
      | true =>
        rw [hgood] at h
        simp only [cond_true] at h
        split at h
        · rename_i o' args' hargs
          split at h
          · rename_i hs hhs
            obtain ⟨c, hs', hrun, hk⟩ := hg.nat _ _ _ _ _ h
            have hF := hg.ok _ _ _ _ _ hrun
            cases hc : (sgOut s.hp L 0 ++ sgNew L.length s.nx hs' : Sg).good && freeAll s.hp (sgNew L.length s.nx hs') with
            | false => rw [hc] at hk; cases hk
            | true =>
              rw [hc] at hk
              simp only [Bool.and_eq_true] at hc
              simp only [cond_true] at hk
              split at hk
              · rename_i wr hwr
                have hGF : GlobFree C := fun gg v hv => hE.gf gg v (by rw [← hΓ]; exact hv)
                have ea : rens (sgIn s.hp L 0) (.ref q :: xs.toList.map (s.toA.ev C)) = some (.ref o' :: args') := by rw [evs_map hΓ]; exact hargs
                rw [← hΓ] at hF
                exact ⟨_, hk, opW_yield ho hGF ((ev_eq hΓ s x).trans hx) hq hm ea (handed_of hgood hhs) hF (back_of hc.1 hc.2 hwr) (fun o' o φ hh => by
                  obtain ⟨ob, ob', h1, h2, h3⟩ := renP_get hwr hc.1 hh
                  exact hget_mem h3)⟩
              · cases hk
          · cases h
        · cases h
  · cases h

/-- it panics, these objects turned -/
def PanW (E : Env) (C : Ctx) (o : Oper) (s : LSt) (t : TypeId) (n : Int) (wr : LHp) : Prop :=
  ∀ a w, Rel C s.toA a w → (∀ d, o.dst = some d → d < C.n) → ∀ (K : Act → World → Prop) (Q : AEx → ASt → Prop), Q (.panic t n) ⟨s.fr.get, hpSet (hget s.hp) wr⟩ → o.wpIn (fen C.rd) 0 E.P a w K (lft C Q)

theorem callE_ok {E : Env} {C : Ctx} {s : LSt} {k : E1 → Option R} {kp : TypeId → Int → LHp → Option R} {r : R} (hE : E.Good) (hΓ : C.Γ = E.gam) {o : Oper} {x : Operand} {xs : Array Operand} {at' : Array TypeId} {f : FuncId} {cap : List AV} {g : FnE} (ho : o.op = .call ⟨.value x, xs, at'⟩)
    (hx : s.ev E x = .fn (.func f) [] cap) (hg : FnE.OK E.P E.gam f g) (h : callE g (evs E s xs.toList ++ cap) s k kp = some r) : Does E C o s k r ∨ ∃ t n wr, kp t n wr = some r ∧ PanW E C o s t n wr := by
  unfold callE at h
  generalize hL : reach s.hp manyFuel (refsL (evs E s xs.toList ++ cap)) [] = L at h
  simp only at h
  cases hgood : (sgIn s.hp L 0).good with
  | false => rw [hgood] at h; cases h
  | true =>
    rw [hgood] at h
    simp only [cond_true] at h
    split at h
    · rename_i args' hargs
      split at h
      · rename_i hs hhs
        obtain ⟨ae, hs', hrun, hk⟩ := hg.nat _ _ _ _ h
        have hF := hg.ok _ _ _ _ hrun
        cases hc : (sgOut s.hp L 0 ++ sgNew L.length s.nx hs' : Sg).good && freeAll s.hp (sgNew L.length s.nx hs') with
        | false => rw [hc] at hk; cases hk
        | true =>
          rw [hc] at hk
          simp only [Bool.and_eq_true] at hc
          simp only [cond_true] at hk
          split at hk
          · rename_i wr hwr
            have hGF : GlobFree C := fun gg v hv => hE.gf gg v (by rw [← hΓ]; exact hv)
            have hH := handed_of hgood hhs
            have hB : Back (sgIn s.hp L 0) (sgOut s.hp L 0 ++ sgNew L.length s.nx hs') (hget s.hp) (hget hs') wr := by
              refine ⟨hc.1, ?_, ?_, ?_, ?_⟩
              · intro o' o φ hh
                obtain ⟨ob, ob', h1, h2, h3⟩ := renP_get hwr hc.1 hh
                exact ⟨ob, ob', h1, h2, hpSet_of_hget h3⟩
              · intro o o' φ hh
                obtain ⟨_, h2, h3⟩ := sgIn_out s.hp L 0 o o' φ hh
                refine ⟨_, by rw [Sg.get_append, h2], fun m v hm => ver_back (by rw [← h3]; exact hm)⟩
              · intro o' o φ hh
                rw [Sg.get_append] at hh
                cases h1 : (sgOut s.hp L 0).get o' with
                | some p =>
                  rw [h1] at hh
                  cases hh
                  exact .inl (sgOut_in s.hp L 0 o o' φ h1)
                | none =>
                  rw [h1] at hh
                  have := sgNew_get _ _ _ _ _ _ hh
                  exact .inr ⟨sgIn_inv s.hp L 0 o' (by omega), freeAll_get hc.2 hh⟩
              · intro o hm
                obtain ⟨ob, hob⟩ := mem_hget hm
                cases hi : (sgOut s.hp L 0 ++ sgNew L.length s.nx hs' : Sg).inv o with
                | none => rw [renP_none hwr hi] at hob; cases hob
                | some o' =>
                  obtain ⟨φ, hφ⟩ := Sg.get_of_inv hc.1 hi
                  exact ⟨o', φ, hφ⟩
            have hall : ∀ o' o φ, (sgOut s.hp L 0 ++ sgNew L.length s.nx hs' : Sg).get o' = some (o, φ) → o ∈ wr.map (·.1) := fun o' o φ hh => by
              obtain ⟨ob, ob', h1, h2, h3⟩ := renP_get hwr hc.1 hh
              exact hget_mem h3
            have ex : s.toA.ev C x = .fn (.func f) [] cap := by rw [ev_eq hΓ, hx]
            have ea : rens (sgIn s.hp L 0) (xs.toList.map (s.toA.ev C) ++ cap) = some args' := by rw [evs_map hΓ]; exact hargs
            rw [← hΓ] at hF
            cases ae with
            | ret rs =>
              simp only at hk
              split at hk
              · rename_i rs' hrs
                exact .inl ⟨_, hk, opW_call ho hGF ex ea hH hF hB hall hrs⟩
              · cases hk
            | panic t n =>
              simp only at hk
              exact .inr ⟨t, n, wr, hk, fun a w hr hd K Q hQ => wp_call_panic ho hGF ex ea hH hF hB hall hr hd K hQ⟩
          · cases hk
      · cases h
    · cases h

/-! ### arrays that turn no more, left as they were -/

def sameK (hp wr : LHp) (o : Nat) : Bool :=
  match hget wr o with
  | some (.arr _ _ m true _) => (match hget hp o with | some (.arr _ _ m' true _) => Nat.beq m m' | _ => false)
  | _ => false
def keepW (hp wr : LHp) : LHp → LHp
  | [] => []
  | (o, ob) :: r => bif sameK hp wr o then keepW hp wr r else (o, ob) :: keepW hp wr r
def keepR (hp wr : LHp) : LHp → List Nat
  | [] => []
  | (o, _) :: r => bif sameK hp wr o then o :: keepR hp wr r else keepR hp wr r
def dropFz (hp : LHp) (e : E1) : E1 := ⟨e.av, keepR hp e.wr e.wr, keepW hp e.wr e.wr, e.nx⟩

theorem hpSet_hget (h : Hp) (wr : LHp) (o : Nat) : hpSet h wr o = (match hget wr o with | some ob => some ob | none => h o) := by
  rw [hget_find]
  unfold hpSet
  cases wr.find? (fun p => Nat.beq p.1 o) <;> rfl
theorem keepW_get (hp wr : LHp) : ∀ (l : LHp) (o : Nat), hget (keepW hp wr l) o = bif sameK hp wr o then none else hget l o
  | [], o => by cases sameK hp wr o <;> rfl
  | (a, ob) :: r, o => by
    simp only [keepW]
    cases ha : sameK hp wr a with
    | true =>
      simp only [cond_true]
      rw [keepW_get hp wr r o]
      cases ho : sameK hp wr o with
      | true => rfl
      | false =>
        simp only [cond_false, hget]
        cases hb : Nat.beq a o with
        | true => rw [Nat.eq_of_beq_eq_true hb, ho] at ha; cases ha
        | false => rfl
    | false =>
      simp only [cond_false, hget]
      rw [keepW_get hp wr r o]
      cases hb : Nat.beq a o with
      | true => rw [← Nat.eq_of_beq_eq_true hb, ha]; rfl
      | false => cases sameK hp wr o <;> rfl
theorem keep_mem (hp wr : LHp) : ∀ (l : LHp) (k : Nat), k ∈ l.map (·.1) → k ∈ keepR hp wr l ∨ k ∈ (keepW hp wr l).map (·.1)
  | [], _, h => by cases h
  | (a, ob) :: r, k, h => by
    simp only [keepR, keepW]
    simp only [List.map_cons, List.mem_cons] at h
    cases ha : sameK hp wr a with
    | true =>
      simp only [cond_true, List.mem_cons]
      rcases h with rfl | h
      · exact .inl (.inl rfl)
      · exact (keep_mem hp wr r k h).imp .inr id
    | false =>
      simp only [cond_false, List.map_cons, List.mem_cons]
      rcases h with rfl | h
      · exact .inr (.inl rfl)
      · exact (keep_mem hp wr r k h).imp id .inr
theorem keep_hp {hp wr : LHp} (h1 : Hp) (hag : ∀ k ∈ wr.map (·.1), h1 k = hget hp k) (o : Nat) : hpSet h1 (keepW hp wr wr) o = hpSet h1 wr o ∨ ∃ (T : TypeId) (e : Ty) (m : Nat) (xs : List e.den) (T' : TypeId) (e' : Ty) (xs' : List e'.den), h1 o = some (.arr T e m true xs) ∧ hpSet h1 wr o = some (.arr T' e' m true xs') ∧ hpSet h1 (keepW hp wr wr) o = h1 o := by
  rw [hpSet_hget, hpSet_hget, keepW_get]
  cases hs : sameK hp wr o with
  | false => exact .inl rfl
  | true =>
    right
    unfold sameK at hs
    split at hs
    · rename_i T' e' m xs' hw
      split at hs
      · rename_i T e m' xs hh
        obtain rfl := Nat.eq_of_beq_eq_true hs
        exact ⟨T, e, m, xs, T', e', xs', (hag o (hget_mem hw)).trans hh, by rw [hw], rfl⟩
      · cases hs
    · cases hs

theorem callE_okF {E : Env} {C : Ctx} {s : LSt} {k : E1 → Option R} {kp : TypeId → Int → LHp → Option R} {r : R} (hE : E.Good) (hΓ : C.Γ = E.gam) {o : Oper} {x : Operand} {xs : Array Operand} {at' : Array TypeId} {f : FuncId} {cap : List AV} {g : FnE} (ho : o.op = .call ⟨.value x, xs, at'⟩)
    (hx : s.ev E x = .fn (.func f) [] cap) (hg : FnE.OK E.P E.gam f g) (h : callE g (evs E s xs.toList ++ cap) s (fun e => k (dropFz s.hp e)) kp = some r) : Does E C o s k r ∨ ∃ t n wr, kp t n wr = some r ∧ PanW E C o s t n wr := by
  obtain ⟨σ, σ', args', hs, ae, hs', wr, hargs, hH, hF, hB, hall, hk⟩ := callE_some hg h
  have hGF : GlobFree C := fun gg v hv => hE.gf gg v (by rw [← hΓ]; exact hv)
  have ex : s.toA.ev C x = .fn (.func f) [] cap := by rw [ev_eq hΓ, hx]
  have ea : rens σ (xs.toList.map (s.toA.ev C) ++ cap) = some args' := by rw [evs_map hΓ]; exact hargs
  rw [← hΓ] at hF
  rcases hk with ⟨rs, rs', rfl, hrs, hk⟩ | ⟨t, n, rfl, hk⟩
  · exact .inl ⟨_, hk, opW_callF ho hGF ex ea hH hF hB hall hrs (keep_mem s.hp wr wr) (fun h1 hag o => keep_hp h1 hag o)⟩
  · exact .inr ⟨t, n, wr, hk, fun a w hr hd K Q hQ => wp_call_panic ho hGF ex ea hH hF hB hall hr hd K hQ⟩

end Go.Vm
namespace Go.Vm

variable {R : Type}

def findE (k : List UInt8) : List (List UInt8 × AV) → Nat → Option (Nat × AV)
  | [], _ => none
  | (k', a) :: l, i => bif k == k' then some (i, a) else findE k l (i + 1)

theorem findNow_E {w : World} {im : Nat → Prop} {μ : Mu} {hp : Hp} {k : List UInt8} : ∀ (l : List (List UInt8 × AV)) (es : List MapEntry) (i : Nat), RepEs w im μ hp l es →
    match findE k l i with
    | none => Instr.findNow .string (.string ⟨k.toArray⟩) es i = some none
    | some (j, a) => ∃ v, Instr.findNow .string (.string ⟨k.toArray⟩) es i = some (some (j, v)) ∧ RepA w im μ hp a v.cells.toList ∧ vIsAgg v = a.isAgg
  | [], es, i, h => by
    have : es = [] := h
    subst this
    rfl
  | (k', a) :: l, es, i, h => by
    obtain ⟨e, es', rfl, h2, h3, h4, h5⟩ := h
    simp only [findE]
    cases hb : (k == k') with
    | true =>
      have hk : k = k' := by simpa using hb
      subst hk
      refine ⟨e.val, ?_, h3, h4⟩
      have hbb : ((⟨k.toArray⟩ : ByteArray) == ⟨k.toArray⟩) = true := (MapKept.bytes_beq _ _).2 rfl
      simp only [Instr.findNow, h2, Instr.sameNow, hbb]
    | false =>
      have hk : k ≠ k' := by intro he; subst he; simp at hb
      have hbb : ((⟨k.toArray⟩ : ByteArray) == ⟨k'.toArray⟩) = false := by
        rw [← Bool.not_eq_true]
        intro h
        have := (MapKept.bytes_beq _ _).1 h
        apply hk
        have h2 : k.toArray = k'.toArray := congrArg ByteArray.data this
        have h3 := congrArg Array.toList h2
        simpa using h3
      have ih := findNow_E (k := k) l es' (i + 1) h5
      simp only [cond_false]
      have e0 : Instr.findNow .string (.string ⟨k.toArray⟩) (e :: es') i = Instr.findNow .string (.string ⟨k.toArray⟩) es' (i + 1) := by
        simp only [Instr.findNow, h2, Instr.sameNow, hbb]
      split
      · rename_i hq; rw [hq] at ih; rw [e0]; exact ih
      · rename_i j a' hq; rw [hq] at ih; rw [e0]; exact ih

theorem repEs_append {w : World} {im : Nat → Prop} {μ : Mu} {hp : Hp} : ∀ {l l' : List (List UInt8 × AV)} {es es' : List MapEntry}, RepEs w im μ hp l es → RepEs w im μ hp l' es' → RepEs w im μ hp (l ++ l') (es ++ es')
  | [], l', es, es', h, h' => by
    have : es = [] := h
    subst this; exact h'
  | (k, a) :: l, l', es, es', h, h' => by
    obtain ⟨e, es1, rfl, h2, h3, h4, h5⟩ := h
    exact ⟨e, es1 ++ es', rfl, h2, h3, h4, repEs_append h5 h'⟩

/-- what the program's table says of a map with strings for keys -/
def mapT? (P : Program) (t : TypeId) : Option (TypeId × TypeId) :=
  match P.underlying t with
  | some (.map k e) => (match P.underlying k with | some .string => some (k, e) | _ => none)
  | _ => none
theorem mapT_some {P : Program} {t k e : TypeId} (h : mapT? P t = some (k, e)) : P.underlying t = some (.map k e) ∧ P.underlying k = some .string := by
  unfold mapT? at h
  split at h
  · rename_i k' e' h1
    split at h
    · rename_i h2; cases h; exact ⟨h1, h2⟩
    · cases h
  · cases h

section
variable {P : Program} {C : Ctx} {s : ASt} {dst : Option Tmp} {ty : TypeId} {pos : String} {aft : Array Edge} {gd : Option (Nat × Bool)}

theorem ok_makeMap {d o : Nat} {t : TypeId} (h0 : s.hp o = none) : OpOK P C ⟨some d, .makeMap t none, ty, pos, aft, gd⟩ ⟨some d, .ref o, [], [(o, .rc (.map []))]⟩ s := by
  intro s1 hop hhp im μ a w hi hd
  have h01 : s1.hp o = none := (hhp o (.inr (by simp))).trans h0
  obtain ⟨hnew, hold⟩ := MapKept.heap_alloc w (.map #[] 0)
  have hmo : (μ o).blk = none := by rw [hi.dom o h01]; rfl
  have hw : WStep w (w.alloc (.map #[] 0)) (μ o).blk := ⟨rfl, rfl, rfl, by simp, fun b hb _ => hold b hb⟩
  have hev : ∀ ob, s1.hp o = some ob → ObEv ob (μ o) (.rc (.map [])) (.at w.heap.size) := fun ob h => by rw [h01] at h; cases h
  refine ⟨.map (some w.heap.size), _, im, _, .inl ?_, hi.obj1 (pl' := .at w.heap.size) hev hw (fun b hb => by cases hb; exact ⟨by simp, .inr (Nat.le_refl _)⟩) ⟨_, _, rfl, hnew, #[], 0, rfl, rfl⟩ hd ?_⟩
  · simp [execOp, Instr.makeMap]
  · refine ⟨?_, rfl⟩
    simp only [RepA]
    exact ⟨w.heap.size, .map [], updMu_same _ _ _, hpSet_one _ _ _, rfl⟩

theorem mapPtr {im : Nat → Prop} {μ : Mu} {a : Act} {w : World} (hi : Inv C im μ s a w) {x : Operand} {q : Nat} {l : List (List UInt8 × AV)} (hx : s.ev C x = .ref q) (hq : s.hp q = some (.rc (.map l))) :
    ∃ b es clock, a.eval x = .map (some b) ∧ μ q = .at b ∧ w.heap[b]? = some (.map es clock) ∧ RepEs w im μ s.hp l es.toList := by
  obtain ⟨hr, hag⟩ := hx ▸ hi.ev x
  simp only [RepA] at hr
  obtain ⟨b, r, h1, h2, h3⟩ := hr
  rw [hq] at h2
  cases h2
  obtain ⟨b', o, h4, h5, es, clock, rfl, h6⟩ := hi.obj q _ hq
  obtain rfl : b' = b := by rw [h1] at h4; cases h4; rfl
  refine ⟨b', es, clock, ?_, h1, h5, h6⟩
  have h7 : (a.eval x).cells.toList = [.map (some b')] := h3
  generalize a.eval x = v at h7 hag
  cases v <;> simp_all [Value.cells, vIsAgg, AV.isAgg]

theorem run_mapSet {t kt e : TypeId} (hm : P.underlying t = some (.map kt e)) (hk : P.underlying kt = some .string) {w : World} {b : Nat} {es : Array MapEntry} {clock : Nat} (hb : w.heap[b]? = some (.map es clock)) {k : List UInt8} {v : Value}
    (hf : Instr.findNow .string (.string ⟨k.toArray⟩) es.toList 0 = some none) :
    (Instr.mapUpdate t (.map (some b)) (.string ⟨k.toArray⟩) v).run P w = .ok () (w.putObj b (.map (es.push { key := .string ⟨k.toArray⟩, val := v, born := clock }) (clock + 1))) := by
  have h1 := MapKept.run_getObj_map (P := P) hb
  have h2 := fun o => MapKept.run_setObj_map (P := P) o hb
  have h3 := MapKept.run_checkKey (P := P) (w := w) (k := .string ⟨k.toArray⟩) hk trivial false 9999
  have h4 := MapKept.run_findKey (P := P) (w := w) hk hf
  simp only [Instr.mapUpdate, Sem.run_bind, run_underlying hm, Result.andThen_ok, h1, h3, h4, h2]
  rfl

theorem ok_mapSet {ins : Bool} {t kt e : TypeId} {x y z : Operand} {q : Nat} {l : List (List UInt8 × AV)} {k : List UInt8} {av : AV} (hm : P.underlying t = some (.map kt e)) (hk : P.underlying kt = some .string) (hx : s.ev C x = .ref q) (hq : s.hp q = some (.rc (.map l)))
    (hy : s.ev C y = .d .str k) (hz : s.ev C z = av) (hpl : av.plain = true) (hf : findE k l 0 = none) :
    OpOK P C ⟨none, bif ins then .insert t x y z else .mapUpdate t x y z, ty, pos, aft, gd⟩ ⟨none, .undef, [], [(q, .rc (.map (l ++ [(k, av)])))]⟩ s := by
  intro s1 hop hhp im μ a w hi hd
  have hx1 : s1.ev C x = .ref q := (hop x (by cases ins <;> simp [Op.operands])).trans hx
  have hy1 : s1.ev C y = .d .str k := (hop y (by cases ins <;> simp [Op.operands])).trans hy
  have hz1 : s1.ev C z = av := (hop z (by cases ins <;> simp [Op.operands])).trans hz
  have hq1 : s1.hp q = some (.rc (.map l)) := (hhp q (.inr (by simp))).trans hq
  obtain ⟨b, es, clock, e1, h1, h2, h3⟩ := mapPtr hi hx1 hq1
  have e2 : a.eval y = .string ⟨k.toArray⟩ := scal_eq (u := .string ⟨k.toArray⟩) rfl (hy1 ▸ hi.ev y)
  obtain ⟨g1, g2⟩ := (hz1 ▸ hi.ev z).toA hpl
  have hfn := findNow_E (k := k) l es.toList 0 h3
  rw [hf] at hfn
  have hrun := run_mapSet hm hk h2 (v := a.eval z) hfn
  have hlt : b < w.heap.size := (Array.getElem?_eq_some_iff.1 h2).1
  have hev : ∀ ob, s1.hp q = some ob → ObEv ob (μ q) (.rc (.map (l ++ [(k, av)]))) (μ q) := fun ob hob => by
    rw [hq1] at hob; cases hob; exact ⟨rfl, rfl⟩
  have hw : WStep w (w.putObj b (.map (es.push { key := .string ⟨k.toArray⟩, val := a.eval z, born := clock }) (clock + 1))) (μ q).blk :=
    ⟨rfl, rfl, rfl, by simp, fun b' _ hb => World.putObj_heap_other (by rintro rfl; exact hb (by rw [h1]; rfl))⟩
  have ev := hi.evObj hev hw
  refine ⟨Go.undef, _, im, _, .inr ⟨rfl, ?_⟩, hi.obj1 (dst := none) hev hw (fun b' hb => ⟨by simpa using (hi.sep q b' hb).2.1, .inl hb⟩) ?_ (fun d h => by cases h) trivial⟩
  · cases ins <;> simp [execOp, e1, e2, hrun]
  · rw [h1]
    refine ⟨b, _, rfl, World.putObj_heap_same hlt, _, _, rfl, ?_⟩
    rw [Array.toList_push]
    have ev' := ev
    rw [h1] at ev'
    exact repEs_append (RepEs.ev ev' _ _ h3) ⟨_, [], rfl, rfl, RepA.ev ev' _ _ g1, g2, rfl⟩

theorem ok_lookup {t kt e : TypeId} {x y : Operand} {q : Nat} {l : List (List UInt8 × AV)} {k : List UInt8} {av : AV} {ok : Bool} (hm : P.underlying t = some (.map kt e)) (hk : P.underlying kt = some .string) (hx : s.ev C x = .ref q) (hq : s.hp q = some (.rc (.map l)))
    (hy : s.ev C y = .d .str k) (hf : match findE k l 0 with | none => ok = false ∧ av = .nilfn ∧ ∃ i, P.info? e = some i ∧ i.zero = some .nilFunc | some (_, a) => ok = true ∧ av = a) :
    OpOK P C ⟨dst, .lookup t x y true, ty, pos, aft, gd⟩ ⟨dst, .tup [av, .d .bool ok], [q], []⟩ s := by
  intro s1 hop hhp im μ a w hi hd
  have hx1 : s1.ev C x = .ref q := (hop x (by simp [Op.operands])).trans hx
  have hy1 : s1.ev C y = .d .str k := (hop y (by simp [Op.operands])).trans hy
  have hq1 : s1.hp q = some (.rc (.map l)) := (hhp q (.inl (by simp))).trans hq
  obtain ⟨b, es, clock, e1, h1, h2, h3⟩ := mapPtr hi hx1 hq1
  have e2 : a.eval y = .string ⟨k.toArray⟩ := scal_eq (u := .string ⟨k.toArray⟩) rfl (hy1 ▸ hi.ev y)
  have hfn := findNow_E (k := k) l es.toList 0 h3
  have g1 := MapKept.run_getObj_map (P := P) h2
  have g3 := fun e => MapKept.run_checkKey (P := P) (w := w) (k := .string ⟨k.toArray⟩) hk trivial e 9999
  have hput : ∀ v, RepV w im μ s1.hp (.tup [av, .d .bool ok]) v → Inv C im μ ⟨(s1.put dst (.tup [av, .d .bool ok])).fr, s1.hp⟩ (a.put dst v) w := fun v hv => hi.put rfl rfl rfl rfl hd hv
  cases hfe : findE k l 0 with
  | none =>
    rw [hfe] at hfn hf
    obtain ⟨rfl, rfl, i, hi1, hi2⟩ := hf
    have g4 := MapKept.run_findKey (P := P) (w := w) hk hfn
    refine ⟨.tuple #[.nilFunc, .bool false], w, im, μ, .inl ?_, hput _ ⟨[.nilFunc, .bool false], rfl, ?_⟩⟩
    · simp [execOp, e1, e2, Instr.lookup, run_underlying hm, g1, g3, g4, zeroValue, typeInfo, hi1, hi2]
    · simp only [RepFs, RepA, RepD]
      exact ⟨_, _, rfl, rfl, rfl, _, _, rfl, rfl, rfl, rfl⟩
  | some p =>
    obtain ⟨j, a'⟩ := p
    rw [hfe] at hfn hf
    obtain ⟨rfl, rfl⟩ := hf
    obtain ⟨v, hfn, hv1, hv2⟩ := hfn
    have g4 := MapKept.run_findKey (P := P) (w := w) hk hfn
    refine ⟨.tuple #[v, .bool true], w, im, μ, .inl ?_, hput _ ⟨[v, .bool true], rfl, ?_⟩⟩
    · simp [execOp, e1, e2, Instr.lookup, run_underlying hm, g1, g3, g4]
    · simp only [RepFs, RepA, RepD]
      exact ⟨_, _, rfl, hv1, hv2, _, _, rfl, rfl, rfl, rfl⟩

end

section
variable {E : Env} {C : Ctx} {s : LSt} {k : E1 → Option R} {r : R} {dst : Option Tmp} {ty : TypeId} {pos : String} {aft : Array Edge} {gd : Option (Nat × Bool)}

def opMakeMap (s : LSt) (k : E1 → Option R) : Option R := free? s.hp s.nx (k ⟨.ref s.nx, [], [(s.nx, .rc (.map []))], s.nx + 1⟩)
theorem opMakeMap_ok {d : Nat} {t : TypeId} (h : opMakeMap s k = some r) : Does E C ⟨some d, .makeMap t none, ty, pos, aft, gd⟩ s k r := by
  unfold opMakeMap at h
  obtain ⟨h0, h⟩ := free_some h
  exact .of _ h (ok_makeMap h0)

def opMapSet (E : Env) (t : TypeId) (x y z : Operand) (s : LSt) (k : E1 → Option R) : Option R :=
  match mapT? E.P t with
  | some _ =>
    (match s.ev E x, s.ev E y with
    | .ref q, .d .str key =>
      (match hget s.hp q with
      | some (.rc (.map l)) =>
        (match findE key l 0 with
        | none => bif (s.ev E z).plain then k ⟨.undef, [], [(q, .rc (.map (l ++ [(key, s.ev E z)])))], s.nx⟩ else none
        | some _ => none)
      | _ => none)
    | _, _ => none)
  | none => none
theorem opMapSet_ok (hΓ : C.Γ = E.gam) {ins : Bool} {t : TypeId} {x y z : Operand} (h : opMapSet E t x y z s k = some r) : Does E C ⟨none, bif ins then .insert t x y z else .mapUpdate t x y z, ty, pos, aft, gd⟩ s k r := by
  unfold opMapSet at h
  have ex := ev_eq hΓ s x
  have ey := ev_eq hΓ s y
  have ez := ev_eq hΓ s z
  split at h
  · rename_i p hp
    split at h
    · rename_i q key hx hy
      rw [hx] at ex; rw [hy] at ey
      split at h
      · rename_i l hl
        split at h
        · rename_i hf
          cases hpl : (s.ev E z).plain with
          | false => rw [hpl] at h; cases h
          | true =>
            rw [hpl] at h
            obtain ⟨g1, g2⟩ := mapT_some (k := p.1) (e := p.2) hp
            exact .of _ h (ok_mapSet g1 g2 ex hl ey ez hpl hf)
        · cases h
      · cases h
    · cases h
  · cases h

def opLookup (E : Env) (t : TypeId) (x y : Operand) (s : LSt) (k : E1 → Option R) : Option R :=
  match mapT? E.P t with
  | some (_, e) =>
    (match s.ev E x, s.ev E y with
    | .ref q, .d .str key =>
      (match hget s.hp q with
      | some (.rc (.map l)) =>
        (match findE key l 0 with
        | none => (match E.P.info? e with | some i => (match i.zero with | some .nilFunc => k (s.pr (.tup [.nilfn, .d .bool false]) [q]) | _ => none) | none => none)
        | some (_, a) => k (s.pr (.tup [a, .d .bool true]) [q]))
      | _ => none)
    | _, _ => none)
  | none => none
theorem opLookup_ok (hΓ : C.Γ = E.gam) {t : TypeId} {x y : Operand} (h : opLookup E t x y s k = some r) : Does E C ⟨dst, .lookup t x y true, ty, pos, aft, gd⟩ s k r := by
  unfold opLookup at h
  have ex := ev_eq hΓ s x
  have ey := ev_eq hΓ s y
  split at h
  · rename_i kt e hp
    obtain ⟨g1, g2⟩ := mapT_some hp
    split at h
    · rename_i q key hx hy
      rw [hx] at ex; rw [hy] at ey
      split at h
      · rename_i l hl
        split at h
        · rename_i hf
          split at h
          · rename_i i hi
            split at h
            · rename_i hz
              exact .of _ h (ok_lookup g1 g2 ex hl ey (by rw [hf]; exact ⟨rfl, rfl, i, hi, hz⟩))
            · cases h
          · cases h
        · rename_i j a hf
          exact .of _ h (ok_lookup g1 g2 ex hl ey (by rw [hf]; exact ⟨rfl, rfl⟩))
      · cases h
    · cases h
  · cases h

end
end Go.Vm
namespace Go.Vm

variable {R : Type}

def opCall (E : Env) (dst : Option Tmp) (c : Call) (s : LSt) (k : E1 → Option R) (kp : TypeId → Int → LHp → Option R) : Option R :=
  match c.callee with
  | .value x =>
    (match s.ev E x with
    | .fn (.func f) [] cap =>
      (match lk E.calls f with
      | some g => callE g (evs E s c.args.toList ++ cap) s k kp
      | none =>
        (match cap, lk E.exts f with
        | [], some g => g.run (evs E s c.args.toList) fun av => k (s.pv av)
        | _, _ => none))
    | .ref q => (match E.round with | some g => opYield g q (evs E s c.args.toList) s k | none => none)
    | _ => none)
  | .builtin b =>
    (match b, c.args.toList, c.argTypes.toList with
    | .len, [x], [t] => opLen E t x s k
    | .append, [x, y], [t, t2] => bif Nat.beq t t2 then opAppend E t t2 x y s k else (match dst with | some _ => opAppendZ E t t2 x y s k | none => none)
    | .cap, [x], [t] => opCap E t x s k
    | .max, [x, y], _ => opMax E x y s k
    | .min, [x, y], _ => opMin E x y s k
    | _, _, _ => none)
  | .invoke _ _ => none

def op1 (E : Env) (o : Oper) (s : LSt) (k : E1 → Option R) (kp : TypeId → Int → LHp → Option R) : Option R :=
  match o.op with
  | .move x => k (s.pv (s.ev E x))
  | .assign x => k (s.pv (s.ev E x))
  | .pick c x y => opPick E c x y s k
  | .alloc t => (match o.dst with | some _ => opAlloc E t s k | none => none)
  | .box _ x => (match o.dst with | some _ => opBox E x s k | none => none)
  | .build t ps => opBuild E t ps s k
  | .buildSlice t n ps => (match o.dst with | some _ => opLit E t n ps s k | none => none)
  | .load t x => opLoad E t x s k
  | .store t x y => (match o.dst with | some _ => none | none => opStore E t x y s k)
  | .nilCheck x => opNil E x s k
  | .binOp b xt x y _ => opBin E b xt x y s k
  | .unOp u _ x => opUn E u x s k
  | .convert st dt x => opConv E st dt x s k
  | .makeInterface t x => opIface E t x s k
  | .makeFunc f a b => opFunc E f a b s k
  | .makeSlice t x y => (match o.dst with | some _ => opMake E t x y s k | none => none)
  | .slice t x lo hi mx => opSlice E (truncAt o.pos) (keepAt o.pos) t x lo hi mx s k
  | .fieldAddr t x f => opFieldAddr E t x f s k
  | .field t x f => opField E t x f s k
  | .indexAddr t x y => opIndexAddr E t x y s k
  | .index t x y => opIndex E t x y s k
  | .typeAssert x _ t ok => opAssert E x t ok s k
  | .extract x i => opExtract E x i s k
  | .call c => opCall E o.dst c s k kp
  | .makeMap _ r => (match o.dst, r with | some _, none => opMakeMap s k | _, _ => none)
  | .insert t x y z => (match o.dst with | none => opMapSet E t x y z s k | some _ => none)
  | .mapUpdate t x y z => (match o.dst with | none => opMapSet E t x y z s k | some _ => none)
  | .lookup t x y b => bif b then opLookup E t x y s k else none
  | .panic x => (match s.ev E x with | .iface t (.d (.int .i64) n) => kp t n [] | _ => none)
  | _ => none

section
variable {E : Env} {C : Ctx} {s : LSt} {k : E1 → Option R} {kp : TypeId → Int → LHp → Option R} {r : R}

theorem op1_ok (hE : E.Good) (hΓ : C.Γ = E.gam) {o : Oper} (h : op1 E o s k kp = some r) : Does E C o s k r ∨ ∃ t n wr, kp t n wr = some r ∧ PanW E C o s t n wr := by
  obtain ⟨dst, op, ty, pos, aft, gd⟩ := o
  unfold op1 at h
  cases op with
  | move x => exact .inl (.of _ h (ok_move (ev_eq hΓ s x)))
  | assign x => exact .inl (.of _ h (ok_assign (ev_eq hΓ s x)))
  | pick c x y => exact .inl (opPick_ok hΓ h)
  | alloc t => cases dst with
    | none => cases h
    | some d => exact .inl (opAlloc_ok hE.toOK h)
  | box t x => cases dst with
    | none => cases h
    | some d => exact .inl (opBox_ok hΓ h)
  | build t ps => exact .inl (opBuild_ok hE.toOK hΓ h)
  | buildSlice t n ps => cases dst with
    | none => cases h
    | some d => exact .inl (opLit_ok hE.toOK hΓ h)
  | load t x => exact .inl (opLoad_ok hΓ h)
  | store t x y => cases dst with
    | none => exact .inl (opStore_ok hΓ h)
    | some d => cases h
  | nilCheck x => exact .inl (opNil_ok hΓ h)
  | binOp b xt x y yt => exact .inl (opBin_ok hΓ h)
  | unOp u xt x => exact .inl (opUn_ok hΓ h)
  | convert st dt x => exact .inl (opConv_ok hΓ h)
  | makeInterface t x => exact .inl (opIface_ok hΓ h)
  | makeFunc f a b => exact .inl (opFunc_ok hΓ h)
  | makeSlice t x y => cases dst with
    | none => cases h
    | some d => exact .inl (opMake_ok hE.toOK hΓ h)
  | slice t x lo hi mx => exact .inl (opSlice_ok hΓ h)
  | fieldAddr t x f => exact .inl (opFieldAddr_ok hΓ h)
  | field t x f => exact .inl (opField_ok hΓ h)
  | indexAddr t x y => exact .inl (opIndexAddr_ok hΓ h)
  | index t x y => exact .inl (opIndex_ok hE.toOK hΓ h)
  | typeAssert x xt t ok => exact .inl (opAssert_ok hΓ h)
  | extract x i => exact .inl (opExtract_ok hΓ h)
  | makeMap t r =>
    cases dst with
    | none => cases h
    | some d =>
      cases r with
      | none => exact .inl (opMakeMap_ok h)
      | some y => cases h
  | insert t x y z => cases dst with
    | none => exact .inl (opMapSet_ok (ins := true) hΓ h)
    | some d => cases h
  | mapUpdate t x y z => cases dst with
    | none => exact .inl (opMapSet_ok (ins := false) hΓ h)
    | some d => cases h
  | lookup t x y b => cases b with
    | true => exact .inl (opLookup_ok hΓ h)
    | false => cases h
  | panic x =>
    simp only at h
    split at h
    · rename_i t n hx
      refine .inr ⟨t, n, [], h, fun a w hr hd K Q hQ => ?_⟩
      have hrr := hr
      obtain ⟨im, μ, hi⟩ := hr
      have hv : a.eval x = .iface t (.int .i64 n) := iface_eq ((ev_eq hΓ s x).trans hx ▸ hi.ev x)
      refine ⟨fun f _ => fen_fn _ f, ?_⟩
      rw [Oper.semAt_eq _ _ _ (by intro c hc; cases hc)]
      have hrun : (execOp a.eval ⟨dst, .panic x, ty, pos, aft, gd⟩).run E.P w = .halt (.panic (.iface t (.int .i64 n))) w := by
        simp only [execOp, hv, Instr.panic]
        rfl
      rw [hrun, Oper.uponIn_panic]
      have he : (⟨s.fr.get, hpSet (hget s.hp) []⟩ : ASt) = s.toA := by
        unfold LSt.toA; congr 1
      rw [he] at hQ
      exact ⟨.panic t n, s.toA, rfl, hQ, hrr⟩
    · cases h
  | call c =>
    obtain ⟨callee, xs, at'⟩ := c
    simp only [opCall] at h
    cases callee with
    | value x =>
      simp only at h
      split at h
      · rename_i f cap hx
        split at h
        · rename_i g hg
          exact callE_ok hE hΓ rfl hx (hE.calls _ (lk_mem hg)) h
        · split at h
          · rename_i g hg
            obtain ⟨av, hk, hrun⟩ := (hE.exts _ (lk_mem hg)).ok _ _ _ h
            refine .inl (.of _ hk (ok_read [] fun w im μ hp ρ hr _ _ => ?_))
            have hxr := hr x (by simp [Op.operands, Call.operands])
            rw [ev_eq hΓ, hx] at hxr
            obtain ⟨hr1, hag⟩ := hxr
            simp only [RepA, RepFs] at hr1
            obtain ⟨vs, us, hcell, rfl, rfl⟩ := hr1
            have hv : ρ x = .func (.func f) #[] #[] := by
              generalize ρ x = v at hcell hag
              cases v <;> simp_all [Value.cells, vIsAgg, AV.isAgg]
            obtain ⟨v, w', h1, h2, h3, h4, h5, h6⟩ := hrun w im μ hp (xs.toList.map ρ) (by rw [← evs_map hΓ]; simp) (by
              intro i a v ha hv
              rw [← evs_map hΓ] at ha
              rw [List.getElem?_map, Option.map_eq_some_iff] at ha hv
              obtain ⟨y, hy, rfl⟩ := ha
              obtain ⟨y', hy', rfl⟩ := hv
              obtain rfl : y = y' := Option.some.inj (hy.symm.trans hy')
              exact hr y (by simp only [Op.operands, Call.operands, Array.toList_append]; exact List.mem_append.2 (.inr (List.mem_of_getElem? hy))))
            refine ⟨v, w', ?_, h2, h3, h4, h5, h6⟩
            have e : xs.map ρ ++ #[] = (xs.toList.map ρ).toArray := by apply Array.ext'; simp
            simp only [execOp, resolve, hv, Deferred.ofValue, Sem.run_bind, Sem.run_pure, Result.andThen_ok, invoke, Array.empty_append]
            rw [e]; exact h1
          · cases h
      · rename_i q hx
        split at h
        · rename_i g hg
          exact .inl (opYield_ok hE hΓ rfl hx (hE.round _ hg) h)
        · cases h
      · cases h
    | builtin b =>
      simp only at h
      split at h
      · rename_i x t h1 h2
        have e1 : xs = #[x] := by apply Array.ext'; simpa using h1
        have e2 : at' = #[t] := by apply Array.ext'; simpa using h2
        subst e1 e2
        exact .inl (opLen_ok hΓ h)
      · rename_i x y t t2 h1 h2
        have e1 : xs = #[x, y] := by apply Array.ext'; simpa using h1
        have e2 : at' = #[t, t2] := by apply Array.ext'; simpa using h2
        subst e1 e2
        cases htt : Nat.beq t t2 with
        | true => rw [htt] at h; exact .inl (opAppend_ok hE.toOK hΓ h)
        | false =>
          rw [htt] at h
          simp only [cond_false] at h
          cases dst with
          | none => cases h
          | some d => exact .inl (opAppendZ_ok hE.toOK hΓ h)
      · rename_i x t h1 h2
        have e1 : xs = #[x] := by apply Array.ext'; simpa using h1
        have e2 : at' = #[t] := by apply Array.ext'; simpa using h2
        subst e1 e2
        exact .inl (opCap_ok hΓ h)
      · rename_i x y h1
        have e1 : xs = #[x, y] := by apply Array.ext'; simpa using h1
        subst e1
        exact .inl (opMax_ok hΓ h)
      · rename_i x y h1
        have e1 : xs = #[x, y] := by apply Array.ext'; simpa using h1
        subst e1
        exact .inl (opMin_ok hΓ h)
      · cases h
    | invoke a b => cases h
  | _ => cases h
end

/-! ### regions -/

def LSt.set (s : LSt) (x : Nat) (a : AV) : LSt := ⟨s.fr.set x a, s.hp, s.nx⟩

def guardSlot (ops : Array Oper) (j : Nat) : Option Nat := match ops[j]? with | some oj => oj.dst | none => none
theorem guardSlot_spec {ops : Array Oper} {j g : Nat} (h : guardSlot ops j = some g) : (ops[j]?).bind (·.dst) = some g := by
  unfold guardSlot at h
  cases ho : ops[j]? with
  | none => rw [ho] at h; cases h
  | some oj => rw [ho] at h; exact h

/-- is an operation wanted? (where it is told, the yes or no is written down) -/
def guardN (n : Nat) (ops : Array Oper) (o : Oper) (s : LSt) (on off : LSt → Option R) : Option R :=
  match o.guard with
  | none => on s
  | some (j, want) =>
    (match guardSlot ops j with
    | some g =>
      bif Nat.blt g n then
        (match s.fr.get g with
        | .d .bool b => bif b then (bif want then on (s.set g (.d .bool true)) else off (s.set g (.d .bool true))) else (bif want then off (s.set g (.d .bool false)) else on (s.set g (.d .bool false)))
        | .tup [] => off s
        | _ => none)
      else none
    | none => none)
def skipE (s : LSt) : E1 := ⟨.tup [], [], [], s.nx⟩

def regN (E : Env) (n : Nat) (ops : Array Oper) : List Oper → LSt → (LSt → Option R) → (TypeId → Int → LSt → Option R) → Option R
  | [], s, k, _ => k s
  | o :: l, s, k, kp =>
    guardN n ops o s (fun s1 => op1 E o s1 (fun e => regN E n ops l (s1.app o.dst e) k kp) (fun t m wr => kp t m ⟨s1.fr, wr ++ s1.hp, s1.nx⟩))
      (fun s1 => regN E n ops l (s1.app o.dst (skipE s1)) k kp)

/-- an operation of a drawing region -/
def op1D (E : Env) (o : Oper) (s : LSt) (k : E1 → Option R) (kp : TypeId → Int → LHp → Option R) : Option R :=
  match o.op with
  | .call ⟨.value x, xs, _⟩ =>
    (match s.ev E x with
    | .fn (.func f) [] cap =>
      (match lk E.calls f with
      | some g => callE g (evs E s xs.toList ++ cap) s (fun e => k (dropFz s.hp e)) kp
      | none => op1 E o s k kp)
    | _ => op1 E o s k kp)
  | _ => op1 E o s k kp
theorem op1D_ok {E : Env} {C : Ctx} {s : LSt} {k : E1 → Option R} {kp : TypeId → Int → LHp → Option R} {r : R} (hE : E.Good) (hΓ : C.Γ = E.gam) {o : Oper} (h : op1D E o s k kp = some r) : Does E C o s k r ∨ ∃ t n wr, kp t n wr = some r ∧ PanW E C o s t n wr := by
  unfold op1D at h
  split at h
  · rename_i x xs ts ho
    split at h
    · rename_i f cap hx
      split at h
      · rename_i g hg
        exact callE_okF hE hΓ ho hx (hE.calls _ (lk_mem hg)) h
      · exact op1_ok hE hΓ h
    · exact op1_ok hE hΓ h
  · exact op1_ok hE hΓ h

/-- the last operation panics: all others stand ahead of it, in every order -/
def panD (ops : Array Oper) (o : Oper) (ks : List Eff) : Bool :=
  o.guard.isNone && Nat.beq (ks.length + 1) ops.size && checkD ops ((Eff.bad o.dst).key :: ks).reverse (ops.toList.foldl (fun acc o => acc ++ [orOf o acc]) []) &&
  (List.range ks.length).all fun j => ((ops.toList.foldl (fun acc o => acc ++ [orOf o acc]) []).getD ks.length 0).testBit j
def regD (E : Env) (n : Nat) (ops : Array Oper) : List Oper → LSt → List Eff → (LSt → Option R) → (TypeId → Int → LSt → Option R) → Option R
  | [], s, ks, k, _ => bif checkD ops ks.reverse (ops.toList.foldl (fun acc o => acc ++ [orOf o acc]) []) then k s else none
  | o :: l, s, ks, k, kp =>
    guardN n ops o s (fun s1 => op1D E o s1 (fun e => regD E n ops l (s1.app o.dst e) ((e.eff o.dst).key :: ks) k kp) (fun t m wr => bif panD ops o ks then kp t m ⟨s1.fr, wr ++ s1.hp, s1.nx⟩ else none))
      (fun s1 => regD E n ops l (s1.app o.dst (skipE s1)) (((skipE s1).eff o.dst).key :: ks) k kp)

def LSt.fits (s : LSt) (n : Nat) : Prop := ∀ x, x < n → s.fr.has x = true

theorem app_toA {s : LSt} {n : Nat} (hf : s.fits n) {dst : Option Nat} (hd : ∀ d, dst = some d → d < n) (e : E1) : (s.app dst e).toA = (e.eff dst).app s.toA := by
  unfold LSt.app LSt.toA Eff.app E1.eff
  simp only
  congr 1
  · cases dst with
    | none => rfl
    | some d =>
      funext x
      simp only [ASt.put, putF]
      rw [Tr.get_set _ _ _ _ (hf d (hd d rfl))]
  · exact hget_append _ _

theorem app_fits {s : LSt} {n : Nat} (hf : s.fits n) (dst : Option Nat) (e : E1) : (s.app dst e).fits n := by
  intro x hx
  unfold LSt.app
  cases dst with
  | none => exact hf x hx
  | some d => simp only [Tr.has_set]; exact hf x hx

theorem set_fits {s : LSt} {n : Nat} (hf : s.fits n) (x : Nat) (a : AV) : (s.set x a).fits n := by
  intro y hy
  simp only [LSt.set, Tr.has_set]; exact hf y hy

theorem set_toA {s : LSt} {n x : Nat} {a : AV} (hf : s.fits n) (hx : x < n) (ha : s.fr.get x = a) : (s.set x a).toA = s.toA := by
  unfold LSt.set LSt.toA
  simp only
  congr 1
  funext y
  rw [Tr.get_set _ _ _ _ (hf x hx)]
  cases hb : Nat.beq y x with
  | true => rw [Nat.eq_of_beq_eq_true hb, ha]; rfl
  | false => rfl

section
variable {E : Env} {C : Ctx} {r : R} {Q : AEx → ASt → Prop} {ops : Array Oper}

/-- what a guard comes to -/
theorem guardN_some {n : Nat} {o : Oper} {s : LSt} {on off : LSt → Option R} (hn : C.n = n) (hf : s.fits n) (h : guardN n ops o s on off = some r) :
    (∃ s1 : LSt, s1.toA = s.toA ∧ s1.fits n ∧ on s1 = some r ∧ (o.guard = none ∨ ∃ j want g, o.guard = some (j, want) ∧ (ops[j]?).bind (·.dst) = some g ∧ g < C.n ∧ s.toA.fr g = .d .bool want)) ∨
    (∃ s1 : LSt, s1.toA = s.toA ∧ s1.fits n ∧ off s1 = some r ∧ ∃ j want g, o.guard = some (j, want) ∧ (ops[j]?).bind (·.dst) = some g ∧ g < C.n ∧ (s.toA.fr g = .d .bool (!want) ∨ s.toA.fr g = .tup [])) := by
  unfold guardN at h
  split at h
  · rename_i hg
    exact .inl ⟨s, rfl, hf, h, .inl hg⟩
  · rename_i j want hg
    split at h
    · rename_i g hgs
      cases hlt : Nat.blt g n with
      | false => rw [hlt] at h; cases h
      | true =>
        rw [hlt] at h
        have hgn : g < n := Nat.le_of_ble_eq_true hlt
        have hgs' := guardSlot_spec hgs
        simp only [cond_true] at h
        split at h
        · rename_i b hb
          cases b with
          | true =>
            cases want with
            | true => exact .inl ⟨_, set_toA hf hgn hb, set_fits hf _ _, h, .inr ⟨j, true, g, hg, hgs', (by rw [hn]; exact hgn), hb⟩⟩
            | false => exact .inr ⟨_, set_toA hf hgn hb, set_fits hf _ _, h, j, false, g, hg, hgs', (by rw [hn]; exact hgn), .inl hb⟩
          | false =>
            cases want with
            | true => exact .inr ⟨_, set_toA hf hgn hb, set_fits hf _ _, h, j, true, g, hg, hgs', (by rw [hn]; exact hgn), .inl hb⟩
            | false => exact .inl ⟨_, set_toA hf hgn hb, set_fits hf _ _, h, .inr ⟨j, false, g, hg, hgs', (by rw [hn]; exact hgn), hb⟩⟩
        · rename_i hb
          exact .inr ⟨s, rfl, hf, h, j, want, g, hg, hgs', (by rw [hn]; exact hgn), .inr hb⟩
        · cases h
    · cases h

theorem step_guard {i : Nat} {o : Oper} {e : Eff} {s : ASt} (ho : ops[i]? = some o) (hd : e.dst = o.dst) (h : OpW E.P C o e s)
    (hg : o.guard = none ∨ ∃ j want g, o.guard = some (j, want) ∧ (ops[j]?).bind (·.dst) = some g ∧ g < C.n ∧ s.fr g = .d .bool want) : StepOK E.P C ops i s e := by
  rcases hg with hg | ⟨j, want, g, h1, h2, h3, h4⟩
  · exact step_plain ho hg hd h
  · exact step_on ho h1 h2 h3 h4 hd h
theorem step_unwanted {i : Nat} {o : Oper} {s : ASt} (ho : ops[i]? = some o)
    (hg : ∃ j want g, o.guard = some (j, want) ∧ (ops[j]?).bind (·.dst) = some g ∧ g < C.n ∧ (s.fr g = .d .bool (!want) ∨ s.fr g = .tup [])) : StepOK E.P C ops i s ⟨o.dst, .tup [], [], []⟩ := by
  obtain ⟨j, want, g, h1, h2, h3, h4 | h4⟩ := hg
  · exact step_off ho h1 h2 h3 h4
  · exact step_skip ho h1 h2 h3 h4

/-- a panic in a region -/
theorem runN_pan {K : ASt → Prop} {i : Nat} {o : Oper} {s : LSt} {t : TypeId} {n : Int} {wr : LHp} (hn : dstsBelow ops C.n = true) (hoi : ops[i]? = some o)
    (hg : o.guard = none ∨ ∃ j want g, o.guard = some (j, want) ∧ (ops[j]?).bind (·.dst) = some g ∧ g < C.n ∧ s.toA.fr g = .d .bool want)
    (hp : PanW E C o s t n wr) (hQ : Q (.panic t n) ⟨s.fr.get, hpSet (hget s.hp) wr⟩) : RunN E.P C ops Q i s.toA K := by
  intro a w hr
  have hi' : i < ops.size := (Array.getElem?_eq_some_iff.1 hoi).1
  rw [show ops.size - i = (ops.size - (i + 1)) + 1 by omega, List.range'_succ, wpOpsIn_cons]
  have hrr := hr
  obtain ⟨im, μ, hi⟩ := hr
  have hw : Region.wanted o (yielded ops a.tmps) = true := by
    rcases hg with hg | ⟨j, want, g, h1, h2, h3, h4⟩
    · exact wanted_none hg _
    · have hy := yielded_of h2 h3 h4 hi
      simp [Region.wanted, h1, hy]
  unfold wpOpIn
  simp only [hoi, hw, if_true]
  have := hp a w hrr (dstsBelow_spec hn hoi) (wpOpsIn (fen C.rd) 0 E.P ops (lft C (AEx.thn K Q)) (List.range' (i + 1) (ops.size - (i + 1)))) (AEx.thn K Q) hQ
  exact this

theorem regN_ok {K : ASt → Prop} (hE : E.Good) (hΓ : C.Γ = E.gam) {n : Nat} (hn : C.n = n) (hdst : dstsBelow ops C.n = true) : ∀ (l : List Oper) (i : Nat) (s : LSt) (k : LSt → Option R) (kp : TypeId → Int → LSt → Option R), ops.toList.drop i = l → i ≤ ops.size → s.fits n →
    regN E n ops l s k kp = some r → (∀ t m s', kp t m s' = some r → s'.fits n → Q (.panic t m) s'.toA) → (∀ st' : LSt, st'.fits n → k st' = some r → K st'.toA) → RunN E.P C ops Q i s.toA K
  | [], i, s, k, kp, hl, hi, hf, h, _, hK => by
    have : i = ops.size := by
      have := congrArg List.length hl
      simp at this; omega
    subst this
    exact runN_end (hK s hf h)
  | o :: l, i, s, k, kp, hl, hi, hf, h, hp, hK => by
    have hlt : i < ops.size := by
      rcases Nat.lt_or_ge i ops.size with h | h
      · exact h
      · rw [List.drop_eq_nil_of_le (by simpa using h)] at hl; cases hl
    have hoi : ops[i]? = some o := by
      have : (ops.toList.drop i)[0]? = some o := by rw [hl]; rfl
      rw [List.getElem?_drop] at this
      simpa using this
    have hl' : ops.toList.drop (i + 1) = l := by
      rw [← List.drop_drop, hl]; rfl
    have hdo : ∀ d, o.dst = some d → d < n := fun d hd => hn ▸ dstsBelow_spec hdst hoi d hd
    simp only [regN] at h
    rcases guardN_some (C := C) hn hf h with ⟨s1, e1, f1, h1, hg⟩ | ⟨s1, e1, f1, h1, hg⟩
    · rw [← e1] at hg ⊢
      rcases op1_ok hE hΓ h1 with ⟨e, hk, hw⟩ | ⟨t, m, wr, hk, hw⟩
      · refine runN_step hlt hdst (step_guard hoi rfl hw hg) ?_
        rw [← app_toA f1 hdo]
        exact regN_ok hE hΓ hn hdst l (i + 1) _ k kp hl' hlt (app_fits f1 _ _) hk hp hK
      · refine runN_pan hdst hoi hg hw ?_
        have := hp t m _ hk f1
        simp only [LSt.toA, hget_append] at this
        exact this
    · rw [← e1] at hg ⊢
      refine runN_step hlt hdst (step_unwanted hoi hg) ?_
      have : ((⟨o.dst, .tup [], [], []⟩ : Eff).app s1.toA) = (s1.app o.dst (skipE s1)).toA := (app_toA f1 hdo (skipE s1)).symm
      rw [this]
      exact regN_ok hE hΓ hn hdst l (i + 1) _ k kp hl' hlt (app_fits f1 _ _) h1 hp hK

theorem regD_ok {K : ASt → Prop} (hE : E.Good) (hΓ : C.Γ = E.gam) {n : Nat} (hn : C.n = n) (hdst : dstsBelow ops C.n = true) : ∀ (l : List Oper) (i : Nat) (s : LSt) (ks : List Eff) (k : LSt → Option R) (kp : TypeId → Int → LSt → Option R), ops.toList.drop i = l → i ≤ ops.size → ks.length = i → s.fits n →
    regD E n ops l s ks k kp = some r → (∀ t m s', kp t m s' = some r → s'.fits n → Q (.panic t m) s'.toA) → (∀ st' : LSt, st'.fits n → k st' = some r → K st'.toA) → RunKP E.P C Q ops (ops.toList.foldl (fun acc o => acc ++ [orOf o acc]) []) i ks s.toA K
  | [], i, s, ks, k, kp, hl, hi, hks, hf, h, hp, hK => by
    simp only [regD] at h
    cases hc : checkD ops ks.reverse (ops.toList.foldl (fun acc o => acc ++ [orOf o acc]) []) with
    | false => rw [hc] at h; cases h
    | true =>
      rw [hc] at h
      exact runKP_end ks rfl hc (hK s hf h)
  | o :: l, i, s, ks, k, kp, hl, hi, hks, hf, h, hp, hK => by
    have hlt : i < ops.size := by
      rcases Nat.lt_or_ge i ops.size with h | h
      · exact h
      · rw [List.drop_eq_nil_of_le (by simpa using h)] at hl; cases hl
    have hoi : ops[i]? = some o := by
      have : (ops.toList.drop i)[0]? = some o := by rw [hl]; rfl
      rw [List.getElem?_drop] at this
      simpa using this
    have hl' : ops.toList.drop (i + 1) = l := by
      rw [← List.drop_drop, hl]; rfl
    have hdo : ∀ d, o.dst = some d → d < n := fun d hd => hn ▸ dstsBelow_spec hdst hoi d hd
    simp only [regD] at h
    rcases guardN_some (C := C) hn hf h with ⟨s1, e1, f1, h1, hg⟩ | ⟨s1, e1, f1, h1, hg⟩
    · rw [← e1] at hg ⊢
      rcases op1D_ok hE hΓ h1 with ⟨e, hk, hw⟩ | ⟨t, m, wr, hk, hw⟩
      · refine runKP_step (step_guard hoi rfl hw hg) ?_
        rw [← app_toA f1 hdo]
        exact regD_ok hE hΓ hn hdst l (i + 1) _ _ k kp hl' hlt (by simp [hks]) (app_fits f1 _ _) hk hp hK
      · cases hb : panD ops o ks with
        | false => rw [hb] at hk; cases hk
        | true =>
          rw [hb, cond_true] at hk
          unfold panD at hb
          simp only [Bool.and_eq_true, List.all_eq_true, List.mem_range] at hb
          obtain ⟨⟨⟨b1, b2⟩, b3⟩, b4⟩ := hb
          have b2 := Nat.eq_of_beq_eq_true b2
          refine runKP_pan hoi (by omega) hks (fun j hj => by have := b4 j (by omega); rwa [hks] at this) b3 ?_
          intro a w hr K'
          unfold wpOpIn
          simp only [hoi, wanted_none (Option.isNone_iff_eq_none.1 b1), if_true]
          refine hw a w hr (dstsBelow_spec hdst hoi) K' Q ?_
          have := hp t m _ hk f1
          simp only [LSt.toA, hget_append] at this
          exact this
    · rw [← e1] at hg ⊢
      refine runKP_step (step_unwanted hoi hg) ?_
      have : ((⟨o.dst, .tup [], [], []⟩ : Eff).app s1.toA) = (s1.app o.dst (skipE s1)).toA := (app_toA f1 hdo (skipE s1)).symm
      rw [this]
      exact regD_ok hE hΓ hn hdst l (i + 1) _ _ k kp hl' hlt (by simp [hks]) (app_fits f1 _ _) h1 hp hK

end
end Go.Vm
