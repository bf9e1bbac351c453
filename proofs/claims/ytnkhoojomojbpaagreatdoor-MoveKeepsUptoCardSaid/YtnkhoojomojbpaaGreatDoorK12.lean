/- Part W of the abstract machine: loops over functions: a round's contract, the call of yield, the loop's statement. -/
import Derived.Test.YtnkhoojomojbpaaGreatDoorK11
namespace Go.Vm
section
variable {P : Program} {C : Ctx} {s : ASt}
def Ds (P : Program) (Γ : Nat -> Option AV) (o : Nat) (args : List AV) (h0 : Hp) (R : Bool -> Hp -> Prop) : Prop :=
 ∀ (W : World) (im : Nat -> Prop) (μ : Mu) (l : Nat) (vals : List Value), (∀ b, im b -> b < W.heap.size) -> kT Γ W im -> jR W im μ h0 -> μ o = .at l -> RepFs W im μ h0 args vals ->
  ∃ r : Loop, W.heap[l]? = some (.loop r) /\ vals.length = r.params.size /\
   RoundIn Fence.wide 0 P l r.fn ((r.params.zip vals.toArray).foldl (fun tmps p => tmps.setIfInBounds p.1 p.2) r.tmps) r.assign r.body W
    fun e w' => ∃ c h1 bI bh, e = .returned (.bool c) /\ R c h1 /\ dc W im μ h0 w' bI bh h1
theorem HH {o : Oper} {x : Operand} {xs : Array Operand} {at' : Array TypeId} {q o' : Nat} {r0 : dx} {args : List AV} {σ cI : Sg} {h0 H1 : Hp} {wr : List (Nat × aj)} {c : Bool} (ho : o.op = .call ⟨.value x, xs, at'⟩) (hg : eE C)
  (hx : s.ev C x = .ref q) (hq : s.hp q = some (.rc r0)) (hm : r0.isMap = false) (hargs : rens σ (.ref q :: xs.toList.map (s.ev C)) = some (.ref o' :: args)) (H : cu σ s.hp h0) (hf : Ds P C.Γ o' args h0 (fun c' h1 => c' = c /\ h1 = H1)) (B : n6 σ cI s.hp H1 wr)
  (hall : ∀ o' o φ, cI.get o' = some (o, φ) -> o ∈ wr.map (·.1)) : OpW P C o ⟨o.dst, .d .bool c, [], wr⟩ s := by
 intro s1 fj fA a w hr hd K Q hK
 obtain ⟨im, μ, hi⟩ := hr
 have hhp' : ∀ k, k ∈ wr.map (·.1) -> s1.hp k = s.hp k := fun k hk => fA k (.inr hk)
 have hpas : ∀ o o' φ, σ.get o = some (o', φ) -> s1.hp o = s.hp o := fun o o' φ h => by
  obtain ⟨wP, e, _⟩ := B.passed o o' φ h
  grind
 have H1' := H.of_agree hpas
 have B1 := B.of_agree hall hhp'
 obtain ⟨φ, hσq, hrest⟩ : ∃ φ, σ.get q = some (o', φ) /\ rens σ (xs.toList.map (s.ev C)) = some args := by
  grind [rens, AV.ren]
 have hq1 : s1.hp q = some (.rc r0) := (hpas q o' φ hσq).trans hq
 have rG : s1.ev C x = .ref q := (fj x (by rw [ho]; simp [Op.operands, Call.operands])).trans hx
 obtain ⟨hrx, cy⟩ := rG ▸ hi.ev x
 simp only [RepA] at hrx
 obtain ⟨l, r1, hl, C2, hcell⟩ := hrx
 rw [hq1] at C2
 cases C2
 have hcell2 : (a.eval x).cells.toList = [.func (.yield l) #[] #[]] := by rw [hcell]; simp only [dx.val, hm]; rfl
 have hv : a.eval x = .func (.yield l) #[] #[] := by
  generalize a.eval x = v at hcell2 cy
  cases v <;> simp_all [Value.cells, aY, AV.isAgg]
 have hA : RepFs w im μ s1.hp (xs.toList.map (s.ev C)) (xs.toList.map a.eval) := by
  refine j6 hrest (by simp) ?_
  intro i b u hb hu
  rw [List.getElem?_map, Option.map_eq_some_iff] at hb hu
  obtain ⟨y, hy, rfl⟩ := hb
  obtain ⟨y', hy', rfl⟩ := hu
  obtain rfl : y = y' := Option.some.inj (hy.symm.trans hy')
  have hm : y ∈ o.op.operands.toList := by
   rw [ho]
   simp only [Op.operands, Call.operands, Array.toList_append]
   exact List.mem_append.2 (.inr (List.mem_of_getElem? hy))
  rw [← fj y hm]; exact hi.ev y
 obtain ⟨hI, hS⟩ := H1'.inv (fun o b h => ⟨(hi.sep o b h).1, (hi.sep o b h).2.1⟩) hi.inj hi.obj
 have hAll' := RepFs.ren hS _ _ _ hrest hA
 have mV : ff σ μ o' = .at l := by rw [show ff σ μ o' = μ q from by simp only [ff, Sg.inv_of_get H1'.good hσq]]; exact hl
 obtain ⟨r, hrl, hlen, hround⟩ := hf w im (ff σ μ) l _ hi.imLt (fun g v h => by
  obtain ⟨h1, h2⟩ := (hi.glob g v h).toA (fB (hg g v h))
  exact bo.ofA (RepA.free _ _ (hg g v h) h1) h2) hI mV hAll'
 have hrun : (execOp a.eval o).run P w = .ok (.round l r.fn ((r.params.zip (xs.toList.map a.eval).toArray).foldl (fun tmps p => tmps.setIfInBounds p.1 p.2) r.tmps) r.assign r.body) w := by
  have e : (xs.toList.map a.eval).toArray = xs.map a.eval := by apply Array.ext'; simp
  have hy := run_yield (P := P) (w := w) (args := xs.map a.eval) hrl (by simpa using hlen)
  rw [e]
  simp only [execOp, ho, resolve, hv, Deferred.ofValue, Sem.run_bind, Sem.run_pure, Result.andThen_ok, invoke, Array.empty_append]
  exact hy
 refine ⟨fun f _ => nA _ f, ?_⟩
 rw [Oper.semAt_eq _ _ _ (by intro c hc; rw [ho] at hc; cases hc), hrun, Oper.uponIn_round]
 refine ⟨(fun h => nomatch h), ?_⟩
 have hci : RoundIn (fen C.rd) (0 - 1) P l r.fn _ r.assign r.body w _ := hround
 refine hci.mono ?_
 rintro e w' ⟨c', h1, bI, bh, rfl, ⟨rfl, rfl⟩, kf⟩
 exact hK _ _ ⟨bI, _, hi.back (dst := o.dst) H1' B1 kf hd (av := .d .bool c') (v := .bool c') (aP _ _ _ _ (.bool c'))⟩
def Qb (W : World) (im : Nat -> Prop) (μ : Mu) (h0 : Hp) (n : Nat) (Γ : Nat -> Option AV) (l : Nat) : Ctx := ⟨W, im, fun b => ∃ o, (μ o).blk = some b, n, [], Γ, h0, μ, some l, true⟩
def qj (f : Nat -> AV) : List Tmp -> List AV -> Nat -> AV
 | t :: ts, a :: as => qj (ly f t a) ts as
 | _, _ => f
theorem vq {w : World} {im : Nat -> Prop} {μ : Mu} {hp : Hp} : ∀ (ts : List Tmp) (as : List AV) (vals : List Value) (f : Nat -> AV) (tmps : Array Value), RepFs w im μ hp as vals -> ts.length = as.length -> (∀ t ∈ ts, t < tmps.size) -> (∀ x, bo w im μ hp (f x) (tmps.getD x Go.undef)) ->
  (∀ x, bo w im μ hp (qj f ts as x) (((ts.zip vals).foldl (fun tmps p => tmps.setIfInBounds p.1 p.2) tmps).getD x Go.undef)) /\ ((ts.zip vals).foldl (fun tmps p => tmps.setIfInBounds p.1 p.2) tmps).size = tmps.size
 | [], [], vals, f, tmps, _, _, _, h => by simpa [qj] using h
 | t :: ts, a :: as, vals, f, tmps, hr, hl, ht, h => by
  simp only [RepFs] at hr
  obtain ⟨v, us, rfl, h1, h2, h3⟩ := hr
  have bJ := ht t (by simp)
  obtain ⟨g1, g2⟩ := vq ts as us (ly f t a) (tmps.setIfInBounds t v) h3 (by simpa using hl) (fun t' ht' => by simpa using ht t' (by simp [ht'])) (fun x => by
   by_cases e : x = t
   ·subst e
    rw [pB]
    have : (tmps.setIfInBounds x v).getD x Go.undef = v := by simp [Array.getD_eq_getD_getElem?, bJ]
    rw [this]; exact bo.ofA h1 h2
   ·rw [wT _ _ e]
    have : (tmps.setIfInBounds t v).getD x Go.undef = tmps.getD x Go.undef := by simp [Array.getD_eq_getD_getElem?, Array.getElem?_setIfInBounds_ne (Ne.symm e)]
    rw [this]; exact h x)
  exact ⟨g1, by simpa using g2⟩
 | [], _ :: _, _, _, _, _, hl, _, _ => by simp at hl
 | _ :: _, [], _, _, _, _, hl, _, _ => by simp at hl
def E8 : AEx -> Option (Option Jmp)
 | .normal => some none
 | .ret => some (some .ret)
 | .exit id => some (some (.exit id))
 | .panic _ _ => none
def vt : Option Jmp -> j3
 | none => .ready
 | some j => .done j
def ad4 (h0 : Hp) (o : Nat) (R : Bool -> Hp -> Prop) : AEx -> ASt -> Prop := fun ex s2 =>
 ∃ j PE PF σ h1, E8 ex = some j /\ s2.hp o = some (.rc (.loop PE PF .busy)) /\ cu σ (aG s2.hp [(o, .rc (.loop PE PF (vt j)))]) h1 /\ (∀ o ob, h0 o = some ob -> σ.get o = some (o, .keep)) /\ R j.isNone h1
theorem Inv.loopTo {im : Nat -> Prop} {μ : Mu} {a : Act} {w : World} (hi : Inv C im μ s a w) {o : Nat} {lc : vd} {fr : List (Nat × AV)} {st : j3} (ho : s.hp o = some (.rc (.loop lc fr st))) :
  ∃ l r, μ o = .at l /\ w.heap[l]? = some (.loop r) /\ st.ok r /\ r.params = lc.ps /\ r.assign = lc.assign /\ r.body = lc.body /\ r.tmps.size = lc.n /\ (∀ p ∈ fr, bo w im μ s.hp p.2 (r.tmps.getD p.1 Go.undef)) /\
   ∀ (r' : Loop) (CQ : j3), r'.params = r.params -> r'.assign = r.assign -> r'.body = r.body -> r'.tmps = r.tmps -> CQ.ok r' -> Inv C im μ ⟨s.fr, aG s.hp [(o, .rc (.loop lc fr CQ))]⟩ a (w.putObj l (.loop r')) := by
 obtain ⟨l, x, hl, hx, r, rfl, h1, h2, h3, h4, h5, h6⟩ := hi.obj o _ ho
 refine ⟨l, r, hl, hx, h6, h1, h2, h3, h4, h5, fun r' CQ e1 e2 e3 e4 e5 => ?_⟩
 have bJ : l < w.heap.size := (Array.getElem?_eq_some_iff.1 hx).1
 have fO : ∀ ob, s.hp o = some ob -> cA ob (μ o) (.rc (.loop lc fr CQ)) (μ o) := fun ob dK => by
  rw [ho] at dK; cases dK; exact ⟨rfl, rfl⟩
 have hw : jk w (w.putObj l (.loop r')) (μ o).blk := ⟨rfl, rfl, rfl, by simp, fun b _ hb => World.putObj_heap_other (by rintro rfl; exact hb (by rw [hl]; rfl))⟩
 have ev := hi.evObj fO hw
 have hmu : jj μ o (μ o) = μ := by funext y; unfold jj; cases hb : Nat.beq y o with | true => rw [bj hb]; rfl | false => rfl
 have := hi.obj1 (dst := none) (av := .undef) (v := Go.undef) fO hw (fun b hb => ⟨by simpa using (hi.sep o b hb).2.1, .inl hb⟩) (by
  rw [hl]
  exact ⟨l, _, rfl, World.putObj_heap_same bJ, r', rfl, e1.trans h1, e2.trans h2, e3.trans h3, by rw [e4]; exact h4, fun p hp => by rw [e4]; have := (h5 p hp).ev ev; rw [hl] at this; exact this, e5⟩) (fun d h => by cases h) trivial
 rw [hmu] at this
 exact this
theorem xa {Γ : Nat -> Option AV} {o : Nat} {lc : vd} {fr : List (Nat × AV)} {args : List AV} {h0 : Hp} {R : Bool -> Hp -> Prop} {f : Nat -> AV} (hgf : ∀ g v, Γ g = some v -> v.free = true) (ho : h0 o = some (.rc (.loop lc fr .ready)))
  (hf : ∀ x, f x = .undef \/ ∃ a, (x, a) ∈ fr /\ f x = a) (hlen : lc.ps.size = args.length) (PG : ∀ t ∈ lc.ps.toList, t < lc.n)
  (h : ∀ W im μ l, AW P (Qb W im μ h0 lc.n Γ l) lc.assign (fun ex s1 => ex = .normal /\ ∃ n1 n2, s1.hp o = some (.rc (.loop n1 n2 .ready)) /\
   AW P (Qb W im μ h0 lc.n Γ l) lc.body (ad4 h0 o R) ⟨s1.fr, aG s1.hp [(o, .rc (.loop n1 n2 .busy))]⟩) ⟨qj f lc.ps.toList args, h0⟩) : Ds P Γ o args h0 R := by
 intro W im μ l vals iC hglob hI hl hargs
 obtain ⟨l', x, zh, hx, r, rfl, h1, h2, h3, h4, h5, h6⟩ := hI.obj o _ ho
 obtain rfl : l' = l := by rw [hl] at zh; cases zh; rfl
 have hvl := iV hargs
 refine ⟨r, hx, by rw [hvl, h1]; exact hlen.symm, ?_⟩
 have hfold : (r.params.zip vals.toArray).foldl (fun tmps p => tmps.setIfInBounds p.1 p.2) r.tmps = (lc.ps.toList.zip vals).foldl (fun tmps p => tmps.setIfInBounds p.1 p.2) r.tmps := by
  grind [Array.toList_zip]
 rw [hfold]
 have q7 : ∀ x, bo W im μ h0 (f x) (r.tmps.getD x Go.undef) := fun x => by
  rcases hf x with h | ⟨a, ha, h⟩
  ·rw [h]; trivial
  grind
 obtain ⟨hrep, fP⟩ := vq lc.ps.toList args vals f r.tmps hargs (by simpa using hlen) (fun t ht => by rw [h4]; exact PG t ht) q7
 have hinv : Inv (Qb W im μ h0 lc.n Γ l') im μ ⟨qj f lc.ps.toList args, h0⟩ { tmps := (lc.ps.toList.zip vals).foldl (fun tmps p => tmps.setIfInBounds p.1 p.2) r.tmps, defers := [] } W := by
  refine ⟨rfl, rfl, rfl, Nat.le_refl _, fun _ _ _ => rfl, fun _ h => h, fun _ h => .inl h, iC, (fun o b h => ⟨(hI.sep o b h).1, (hI.sep o b h).2, .inl ⟨o, h⟩⟩), hI.inj, hI.dom, hI.obj, fun g v h => ?_, hrep, ?_, ⟨[], rfl, List.nodup_nil, fun _ => rfl, fun r hr => by cases hr⟩, fun o ob h => ⟨ob, h, cA.refl _ _⟩⟩
  ·obtain ⟨h1, h2⟩ := (hglob g v h).toA (fB (hgf g v h))
   exact bo.ofA (RepA.free _ _ (hgf g v h) h1) h2
  ·show _ = lc.n
   grind
 rw [h2, h3]
 refine roundIn_of_wpIn (F := Fence.wide) trivial ?_
 refine wpIn_mono (h W im μ l' _ _ ⟨im, μ, hinv⟩) ?_
 rintro e a1 w1 ⟨ae, s1, rfl, ⟨rfl, n1, n2, uB, hbody⟩, PH, E0, iE⟩
 have Ho : E0 o = .at l' := by
  obtain ⟨ct, g1, g2⟩ := iE.pin o _ ho
  rw [uB] at g1; cases g1
  exact g2.1.trans hl
 obtain ⟨l1, r1, C1, rG, hst1, _, _, _, _, _, hto⟩ := iE.loopTo uB
 obtain rfl : l1 = l' := by rw [Ho] at C1; cases C1; rfl
 refine ⟨_, run_beginRound rG hst1.1, ?_⟩
 have lB := hto { r1 with state := .busy } .busy rfl rfl rfl rfl rfl
 refine wpIn_mono (hbody _ _ ⟨PH, E0, lB⟩) ?_
 rintro e a3 w3 ⟨ae, s3, rfl, ⟨j, PE, PF, σ, wN, hj, ho3, hH, hpin, hR⟩, im3, μ3, wO⟩
 have hl3 : μ3 o = .at l1 := by
  obtain ⟨ct, g1, g2⟩ := wO.pin o _ ho
  rw [ho3] at g1; cases g1
  exact g2.1.trans hl
 obtain ⟨l3, r3, hm3, hx3, hst3, _, _, _, _, _, hto3⟩ := wO.loopTo ho3
 obtain rfl : l3 = l1 := by rw [hl3] at hm3; cases hm3; rfl
 have hfin : ∀ (jc : Option Code), jc = j.map Jmp.code -> ∃ v w', (Instr.endRound l3 jc).run P w3 = .ok v w' /\ ∃ c h1 bI bh, Ending.returned v = .returned (.bool c) /\ R c h1 /\ dc W im μ h0 w' bI bh h1 := by
  rintro jc rfl
  refine ⟨_, _, run_endRound _ hx3, j.isNone, wN, im3, ff σ μ3, by cases j <;> rfl, hR, ?_⟩
  have C3 := hto3 { r3 with state := if (j.map Jmp.code).isNone then .ready else .done, pending := j.map Jmp.code } (vt j) rfl rfl rfl rfl (by cases j with | none => exact ⟨rfl, rfl⟩ | some j => exact ⟨rfl, rfl⟩)
  have kf : ∀ (hpin : ∀ o ob, h0 o = some ob -> σ.get o = some (o, .keep)), dc W im μ h0 (w3.putObj l3 (.loop { r3 with state := if (j.map Jmp.code).isNone then .ready else .done, pending := j.map Jmp.code })) im3 (ff σ μ3) wN := fun hpin => by
   obtain ⟨hI', hS'⟩ := hH.inv (fun o b h => ⟨(C3.sep o b h).1, (C3.sep o b h).2.1⟩) C3.inj C3.obj
   refine ⟨C3.os, C3.tape, C3.output, C3.grow, fun b hb hno => C3.old b hb (fun ⟨o, ho⟩ => hno o ho), C3.imC, C3.imNew, C3.imLt, fun o b h => ?_, fun o ob dK => ?_, hI'⟩
   ·unfold ff at h
    cases hq : σ.inv o with
    | none => rw [hq] at h; cases h
    | some o1 => rw [hq] at h; exact (C3.sep o1 b h).2.2
   ·have hσ := hpin o ob dK
    obtain ⟨na, k1, k2⟩ := C3.pin o ob dK
    obtain ⟨g1, g2⟩ := hS'.ob o o .keep hσ
    obtain ⟨rF, k3, k4⟩ := g2 na k1
    refine ⟨rF, k3, ?_⟩
    rw [g1]
    exact cA.obR k2 k4
  exact kf hpin
 cases ae with
 | normal => cases hj; exact hfin none rfl
 | ret => cases hj; exact hfin (some .ret) rfl
 | exit id => cases hj; exact hfin (some (.exit id)) rfl
 | panic t n => cases hj
def Qc (Q : AEx -> ASt -> Prop) (S : ASt) : j3 -> Prop
 | .ready => Q .normal S
 | .done .ret => Q .ret S
 | .done (.exit id) => Q (.exit id) S
 | _ => False
theorem Ko (w : World) (x y : Obj) : ((w.alloc x).alloc y).heap[w.heap.size]? = some x /\ ((w.alloc x).alloc y).heap[w.heap.size + 1]? = some y /\ ((w.alloc x).alloc y).heap.size = w.heap.size + 2 /\ ∀ b, b < w.heap.size -> ((w.alloc x).alloc y).heap[b]? = w.heap[b]? := by
 refine ⟨?_, ?_, by simp, fun b hb => ?_⟩
 ·rw [heap_alloc_old _ _ (by simp)]; exact World.alloc_heap_new w x
 ·have := World.alloc_heap_new (w.alloc x) y
  simp_all
 ·rw [heap_alloc_old _ _ (by simp; omega), heap_alloc_old _ _ hb]
theorem xb {Q : AEx -> ASt -> Prop} {fop : Operand} {ps : Array Tmp} {assign body : Code} {f : FuncId} {cap args : List AV} {fr : List (Nat × AV)} {o d : Nat} {σ cI : Sg} {hh H1 : Hp} {wr : List (Nat × aj)} {AE : aq} (hg : eE C) (hnm : C.nm = false) (CP : C.rd = none)
  (hx : s.ev C fop = .fn (.func f) [] cap) (h0 : s.hp o = none) (q7 : ∀ p ∈ fr, p.2 = s.fr p.1) {ob : aj} (dK : ob = .rc (.loop ⟨d, ps, assign, body, C.n⟩ fr .ready))
  (hargs : rens σ (.ref o :: cap) = some args) (H : cu σ (aG s.hp [(o, ob)]) hh) (hf : FnH P C.Γ f args hh (fun ae h1 => ae = AE /\ h1 = H1)) (B : n6 σ cI (aG s.hp [(o, ob)]) H1 wr)
  (hret : ∀ rs, AE = .ret rs -> ∃ n1 n2 st, aG (aG s.hp [(o, ob)]) wr o = some (.rc (.loop n1 n2 st)) /\ Qc Q ⟨s.fr, aG (aG (aG s.hp [(o, ob)]) wr) [(o, .rc (.loop n1 n2 .over))]⟩ st)
  (hpan : ∀ t n, AE = .panic t n -> Q (.panic t n) ⟨s.fr, aG (aG s.hp [(o, ob)]) wr⟩) : AW P C (.rangeFunc fop ps assign body) Q s := by
 subst dK
 rintro a w ⟨im, μ, hi⟩
 obtain ⟨hr, cy⟩ := hx ▸ hi.ev fop
 simp only [RepA, RepFs] at hr
 obtain ⟨vs, us, hcell, Hn, hus⟩ := hr
 subst Hn
 have hv : a.eval fop = .func (.func f) #[] us.toArray := by
  generalize a.eval fop = v at hcell cy
  cases v <;> simp_all [Value.cells, aY, AV.isAgg]
 refine wpIn_rangeFunc fun fn _ => ?_
 obtain ⟨k1, k2, k3, k4⟩ := Ko w (.deferred (some [])) (.loop { state := .ready, pending := none, fn, tmps := a.tmps, params := ps, assign, body, defers := w.heap.size })
 have henter := run_enterLoop_outer (P := P) (w := w) fn a.tmps ps assign body
 generalize hw2 : (w.alloc (.deferred (some []))).alloc (.loop { state := .ready, pending := none, fn, tmps := a.tmps, params := ps, assign, body, defers := w.heap.size }) = w2 at k1 k2 k3 k4 henter
 have hw : jk w w2 (μ o).blk := by
  rw [← hw2]
  exact ⟨rfl, rfl, rfl, by simp; omega, fun b hb _ => by rw [hw2]; exact k4 b hb⟩
 have hmo : (μ o).blk = none := by rw [hi.dom o h0]; rfl
 have fO : ∀ ob, s.hp o = some ob -> cA ob (μ o) (.rc (.loop ⟨d, ps, assign, body, C.n⟩ fr .ready)) (.at (w.heap.size + 1)) := fun ob h => by rw [h0] at h; cases h
 have ev := hi.evObj fO hw
 have iE := hi.obj1 (dst := none) (av := .undef) (v := Go.undef) fO hw (fun b hb => by cases hb; exact ⟨by omega, .inr (by omega)⟩)
  ⟨_, _, rfl, k2, _, rfl, rfl, rfl, rfl, hi.size, fun p hp => by rw [q7 p hp]; exact (hi.fr p.1).ev ev, rfl, rfl⟩ (fun d h => by cases h) trivial
 have lB : Inv C im (jj μ o (.at (w.heap.size + 1))) ⟨s.fr, aG s.hp [(o, .rc (.loop ⟨d, ps, assign, body, C.n⟩ fr .ready))]⟩ { a with defers := [J9 w.heap.size] ++ a.defers } w2 := by
  refine ⟨iE.os, iE.tape, iE.output, iE.grow, iE.old, iE.imC, iE.imNew, iE.imLt, iE.sep, iE.inj, iE.dom, iE.obj, iE.glob, iE.fr, iE.size, ?_, iE.pin⟩
  obtain ⟨rs, h1, h2⟩ := hi.defers
  refine ⟨w.heap.size :: rs, by rw [h1]; rfl, List.nodup_cons.2 ⟨fun hm => by have := (h2.all _ hm).2.1; omega, h2.nodup⟩, (fun h => by rw [hnm] at h; cases h), fun r hr => ?_⟩
  rcases List.mem_cons.1 hr with rfl | hr
  ·refine ⟨hi.grow, by omega, fun h => by have := hi.imLt _ h; omega, fun x hx => ?_, k1⟩
   by_cases e : x = o
   ·subst e; rw [bE] at hx; simp [Pl.blk] at hx
   ·rw [cE _ _ e] at hx; have := (hi.sep x _ hx).2.1; omega
  ·obtain ⟨g1, g2, g3, g4, g5⟩ := h2.all r hr
   refine ⟨g1, by omega, g3, fun x hx => ?_, (k4 r g2).trans g5⟩
   by_cases e : x = o
   ·subst e
    rw [bE] at hx
    have hx2 : w.heap.size + 1 = r := by simpa [Pl.blk] using hx
    omega
   ·rw [cE _ _ e] at hx; exact g4 x hx
 generalize hmu : jj μ o (.at (w.heap.size + 1)) = Ht at lB ev
 have hmo2 : Ht o = .at (w.heap.size + 1) := by rw [← hmu, bE]
 have hA : RepFs w2 im Ht (aG s.hp [(o, .rc (.loop ⟨d, ps, assign, body, C.n⟩ fr .ready))]) (.ref o :: cap) (.func (.yield (w.heap.size + 1)) #[] #[] :: us) := by
  simp only [RepFs, RepA]
  exact ⟨_, _, rfl, ⟨_, _, hmo2, dz _ _ _, rfl⟩, rfl, RepFs.ev ev _ _ hus⟩
 obtain ⟨hI, hS⟩ := H.inv (fun o b h => ⟨(lB.sep o b h).1, (lB.sep o b h).2.1⟩) lB.inj lB.obj
 have hAll' := RepFs.ren hS _ _ _ hargs hA
 have hcalls := hf.2 w2 im (ff σ Ht) _ lB.imLt (fun g v h => by
  obtain ⟨h1, h2⟩ := (lB.glob g v h).toA (fB (hg g v h))
  exact bo.ofA (RepA.free _ _ (hg g v h) h1) h2) hI hAll'
 refine ⟨w.heap.size + 1, [J9 w.heap.size], w2, ⟨.fn (.func f) us.toArray, #[.func (.yield (w.heap.size + 1)) #[] #[]]⟩, w2, f, (.func (.yield (w.heap.size + 1)) #[] #[] :: us).toArray, w2, ?_, ?_, fun f' _ => nA _ f', ?_, (fun h => nomatch h), ?_⟩
 ·show (Instr.enterLoop fn a.tmps ps assign body C.rd).run P w = _
  rw [CP]; exact henter
 ·simp only [resolve, hv, Deferred.ofValue, Sem.run_pure]
  simp [Act.eval]
 ·have := hf.1 (#[.func (.yield (w.heap.size + 1)) #[] #[]] ++ us.toArray) w2
  simp only [invoke]
  rw [this]
  simp
 ·have hci : CallsIn (fen C.rd) (0 - 1) P f (.func (.yield (w.heap.size + 1)) #[] #[] :: us).toArray w2 _ := (callsIn_wide (n := 0 - 1)).2 hcalls
  refine hci.mono ?_
  rintro e w' ⟨ae, h1, bI, bh, ⟨rfl, rfl⟩, kf, he⟩
  have hback := lB.back (dst := none) H B kf (fun d h => by cases h) (av := .undef) (v := Go.undef) trivial
  obtain ⟨o', φ, hσo⟩ : ∃ o' φ, σ.get o = some (o', φ) := by
   simp only [rens, AV.ren] at hargs
   cases PI : σ.get o with
   | none => rw [PI] at hargs; cases hargs
   | some of => exact ⟨of.1, of.2, rfl⟩
  obtain ⟨wP, hσ'o, _⟩ := B.passed o o' φ hσo
  have hmo3 : gw cI bh Ht o = .at (w.heap.size + 1) := by
   rw [show gw cI bh Ht o = bh o' from by simp only [gw, Sg.inv_of_get B.good hσ'o]]
   obtain ⟨na, ob1', g1, g2, g3⟩ := H.fwd o o' φ hσo
   rw [dz] at g1
   cases g1
   obtain ⟨rF, g4, g5⟩ := kf.fob o' _ g3
   have hmi : ff σ Ht o' = Ht o := by simp only [ff, Sg.inv_of_get H.good hσo]
   have hk := aj.ren_obR g2
   cases ob1' with
   | box _ => exact hk.elim
   | arr _ _ _ _ _ => exact hk.elim
   | rc r1 =>
    cases rF with
    | box _ => exact g5.elim
    | arr _ _ _ _ _ => exact g5.elim
    | rc r2 => rw [g5.1, hmi, hmo2]
  cases ae with
  | ret rs =>
   obtain ⟨v, rfl, _⟩ := r5 he
   obtain ⟨n1, n2, st, hol, hend⟩ := hret rs rfl
   obtain ⟨l, r, hl, hxl, JY, _, _, _, _, _, hto⟩ := hback.loopTo (o := o) hol
   obtain rfl : l = w.heap.size + 1 := by rw [hmo3] at hl; cases hl; rfl
   have C3 := hto { r with state := .exhausted } .over rfl rfl rfl rfl trivial
   have hrel : Rel C ⟨s.fr, aG (aG (aG s.hp [(o, .rc (.loop ⟨d, ps, assign, body, C.n⟩ fr .ready))]) wr) [(o, .rc (.loop n1 n2 .over))]⟩ { a with defers := [J9 w.heap.size] ++ a.defers } (w'.putObj (w.heap.size + 1) (.loop { r with state := .exhausted })) := ⟨bI, _, C3⟩
   show ∃ jump w₄, _ /\ _
   cases st with
   | ready =>
    exact ⟨none, _, (run_endLoop hxl (by rw [JY.1]; simp)).trans (congrArg (fun p => Result.ok p _) JY.2), ⟨.normal, _, rfl, hend, hrel⟩⟩
   | busy => exact hend.elim
   | over => exact hend.elim
   | done j =>
    refine ⟨some j.code, _, (run_endLoop hxl (by rw [JY.1]; simp)).trans (congrArg (fun p => Result.ok p _) JY.2), ?_⟩
    cases j with
    | ret => exact wpIn_ret ⟨.ret, _, rfl, hend, hrel⟩
    | exit id => exact wpIn_exit ⟨.exit id, _, rfl, hend, hrel⟩
  | panic t n =>
   have J5 : e = .panicked [{ v := .iface t (.int .i64 n), recovered := false }] := he
   subst J5
   exact ⟨.panic t n, _, rfl, hpan t n rfl, ⟨bI, _, hback⟩⟩
end
end Go.Vm
