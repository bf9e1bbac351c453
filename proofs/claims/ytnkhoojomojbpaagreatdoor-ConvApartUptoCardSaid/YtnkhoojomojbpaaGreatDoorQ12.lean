/- Part W of the abstract machine: loops over functions: a round's contract, the call of yield, the loop's statement. -/
import Derived.Test.YtnkhoojomojbpaaGreatDoorQ11
namespace Go.Vm
section
variable {P : Program} {C : Ctx} {s : ASt}
def DG (P : Program) (Γ : Nat -> Option AV) (o : Nat) (args : List AV) (h0 : Hp) (R : Bool -> Hp -> Prop) : Prop :=
 ∀ (W : World) (im : Nat -> Prop) (μ : Mu) (l : Nat) (vals : List Value), (∀ b, im b -> b < W.heap.size) -> lH Γ W im -> kj W im μ h0 -> μ o = .at l -> RepFs W im μ h0 args vals ->
  ∃ r : Loop, W.heap[l]? = some (.loop r) /\ vals.length = r.params.size /\
   RoundIn Fence.wide 0 P l r.fn ((r.params.zip vals.toArray).foldl (fun tmps p => tmps.setIfInBounds p.1 p.2) r.tmps) r.assign r.body W
    fun e w' => ∃ c h1 bT bm, e = .returned (.bool c) /\ R c h1 /\ dx W im μ h0 w' bT bm h1
theorem HQ {o : Oper} {x : Operand} {xs : Array Operand} {at' : Array TypeId} {q o' : Nat} {r0 : gy} {args : List AV} {σ dc : Sg} {h0 H1 : Hp} {wr : List (Nat × al)} {c : Bool} (ho : o.op = .call ⟨.value x, xs, at'⟩) (hg : fc C)
  (hx : s.ev C x = .ref q) (hq : s.hp q = some (.rc r0)) (hm : r0.isMap = false) (hargs : rens σ (.ref q :: xs.toList.map (s.ev C)) = some (.ref o' :: args)) (H : cN σ s.hp h0) (hf : DG P C.Γ o' args h0 (fun c' h1 => c' = c /\ h1 = H1)) (B : oW σ dc s.hp H1 wr)
  (hall : ∀ o' o φ, dc.get o' = some (o, φ) -> o ∈ wr.map (·.1)) : OpW P C o ⟨o.dst, .d .bool c, [], wr⟩ s := by
 intro s1 fX gm a w hr hd K Q hK
 obtain ⟨im, μ, hi⟩ := hr
 have hhp' : ∀ k, k ∈ wr.map (·.1) -> s1.hp k = s.hp k := fun k hk => gm k (.inr hk)
 have hpas : ∀ o o' φ, σ.get o = some (o', φ) -> s1.hp o = s.hp o := fun o o' φ h => by
  obtain ⟨xr, e, _⟩ := B.passed o o' φ h
  exact hhp' o (hall _ _ _ e)
 have H1' := H.of_agree hpas
 have B1 := B.of_agree hall hhp'
 obtain ⟨φ, hσq, hrest⟩ : ∃ φ, σ.get q = some (o', φ) /\ rens σ (xs.toList.map (s.ev C)) = some args := by
  simp only [rens, AV.ren] at hargs
  cases xv : σ.get q with
  | none => rw [xv] at hargs; cases hargs
  | some of =>
   obtain ⟨oo, φ⟩ := of
   rw [xv] at hargs
   simp only at hargs
   cases j7 : rens σ (xs.toList.map (s.ev C)) with
   | none => rw [j7] at hargs; cases hargs
   | some l => rw [j7] at hargs; cases hargs; exact ⟨φ, rfl, rfl⟩
 have hq1 : s1.hp q = some (.rc r0) := (hpas q o' φ hσq).trans hq
 have sA : s1.ev C x = .ref q := (fX x (by rw [ho]; simp [Op.operands, Call.operands])).trans hx
 obtain ⟨hrx, cY⟩ := sA ▸ hi.ev x
 simp only [RepA] at hrx
 obtain ⟨l, r1, hl, Dh, hcell⟩ := hrx
 rw [hq1] at Dh
 cases Dh
 have hcell2 : (a.eval x).cells.toList = [.func (.yield l) #[] #[]] := by rw [hcell]; simp only [gy.val, hm]; rfl
 have hv : a.eval x = .func (.yield l) #[] #[] := by
  generalize a.eval x = v at hcell2 cY
  cases v <;> simp_all [Value.cells, bh, AV.isAgg]
 have hA : RepFs w im μ s1.hp (xs.toList.map (s.ev C)) (xs.toList.map a.eval) := by
  refine kD hrest (by simp) ?_
  intro i b u hb hu
  rw [List.getElem?_map, Option.map_eq_some_iff] at hb hu
  obtain ⟨y, hy, rfl⟩ := hb
  obtain ⟨y', hy', rfl⟩ := hu
  obtain rfl : y = y' := Option.some.inj (hy.symm.trans hy')
  have hm : y ∈ o.op.operands.toList := by
   rw [ho]
   simp only [Op.operands, Call.operands, Array.toList_append]
   exact List.mem_append.2 (.inr (List.mem_of_getElem? hy))
  rw [← fX y hm]; exact hi.ev y
 obtain ⟨hI, hS⟩ := H1'.inv (fun o b h => ⟨(hi.sep o b h).1, (hi.sep o b h).2.1⟩) hi.inj hi.obj
 have hAll' := RepFs.ren hS _ _ _ hrest hA
 have mf : fw σ μ o' = .at l := by rw [show fw σ μ o' = μ q from by simp only [fw, Sg.inv_of_get H1'.good hσq]]; exact hl
 obtain ⟨r, hrl, hlen, hround⟩ := hf w im (fw σ μ) l _ hi.imLt (fun g v h => by
  obtain ⟨h1, h2⟩ := (hi.glob g v h).toA (fP (hg g v h))
  exact bC.ofA (RepA.free _ _ (hg g v h) h1) h2) hI mf hAll'
 have hrun : (execOp a.eval o).run P w = .ok (.round l r.fn ((r.params.zip (xs.toList.map a.eval).toArray).foldl (fun tmps p => tmps.setIfInBounds p.1 p.2) r.tmps) r.assign r.body) w := by
  have e : (xs.toList.map a.eval).toArray = xs.map a.eval := by apply Array.ext'; simp
  have hy := run_yield (P := P) (w := w) (args := xs.map a.eval) hrl (by simpa using hlen)
  rw [e]
  simp only [execOp, ho, resolve, hv, Deferred.ofValue, Sem.run_bind, Sem.run_pure, Result.andThen_ok, invoke, Array.empty_append]
  exact hy
 refine ⟨fun f _ => n9 _ f, ?_⟩
 rw [Oper.semAt_eq _ _ _ (by intro c hc; rw [ho] at hc; cases hc), hrun, Oper.uponIn_round]
 refine ⟨(fun h => nomatch h), ?_⟩
 have hci : RoundIn (fen C.rd) (0 - 1) P l r.fn _ r.assign r.body w _ := hround
 refine hci.mono ?_
 rintro e w' ⟨c', h1, bT, bm, rfl, ⟨rfl, rfl⟩, kO⟩
 exact hK _ _ ⟨bT, _, hi.back (dst := o.dst) H1' B1 kO hd (av := .d .bool c') (v := .bool c') (aN _ _ _ _ (.bool c'))⟩
def P8 (W : World) (im : Nat -> Prop) (μ : Mu) (h0 : Hp) (n : Nat) (Γ : Nat -> Option AV) (l : Nat) : Ctx := ⟨W, im, fun b => ∃ o, (μ o).blk = some b, n, [], Γ, h0, μ, some l, true⟩
def qS (f : Nat -> AV) : List Tmp -> List AV -> Nat -> AV
 | t :: ts, a :: as => qS (l7 f t a) ts as
 | _, _ => f
theorem wi {w : World} {im : Nat -> Prop} {μ : Mu} {hp : Hp} : ∀ (ts : List Tmp) (as : List AV) (vals : List Value) (f : Nat -> AV) (tmps : Array Value), RepFs w im μ hp as vals -> ts.length = as.length -> (∀ t ∈ ts, t < tmps.size) -> (∀ x, bC w im μ hp (f x) (tmps.getD x Go.undef)) ->
  (∀ x, bC w im μ hp (qS f ts as x) (((ts.zip vals).foldl (fun tmps p => tmps.setIfInBounds p.1 p.2) tmps).getD x Go.undef)) /\ ((ts.zip vals).foldl (fun tmps p => tmps.setIfInBounds p.1 p.2) tmps).size = tmps.size
 | [], [], vals, f, tmps, _, _, _, h => by simpa [qS] using h
 | t :: ts, a :: as, vals, f, tmps, hr, hl, ht, h => by
  simp only [RepFs] at hr
  obtain ⟨v, us, rfl, h1, h2, h3⟩ := hr
  have cn := ht t (by simp)
  obtain ⟨g1, g2⟩ := wi ts as us (l7 f t a) (tmps.setIfInBounds t v) h3 (by simpa using hl) (fun t' ht' => by simpa using ht t' (by simp [ht'])) (fun x => by
   by_cases e : x = t
   ·subst e
    rw [qf]
    have : (tmps.setIfInBounds x v).getD x Go.undef = v := by simp [Array.getD_eq_getD_getElem?, cn]
    rw [this]; exact bC.ofA h1 h2
   ·rw [xz _ _ e]
    have : (tmps.setIfInBounds t v).getD x Go.undef = tmps.getD x Go.undef := by simp [Array.getD_eq_getD_getElem?, Array.getElem?_setIfInBounds_ne (Ne.symm e)]
    rw [this]; exact h x)
  exact ⟨g1, by simpa using g2⟩
 | [], _ :: _, _, _, _, _, hl, _, _ => by simp at hl
 | _ :: _, [], _, _, _, _, hl, _, _ => by simp at hl
def Fi : AEx -> Option (Option Jmp)
 | .normal => some none
 | .ret => some (some .ret)
 | .exit id => some (some (.exit id))
 | .panic _ _ => none
def wj : Option Jmp -> xx
 | none => .ready
 | some j => .done j
def adz (h0 : Hp) (o : Nat) (R : Bool -> Hp -> Prop) : AEx -> ASt -> Prop := fun ex s2 =>
 ∃ j PE PF σ h1, Fi ex = some j /\ s2.hp o = some (.rc (.loop PE PF .busy)) /\ cN σ (aG s2.hp [(o, .rc (.loop PE PF (wj j)))]) h1 /\ (∀ o ob, h0 o = some ob -> σ.get o = some (o, .keep)) /\ R j.isNone h1
theorem Inv.loopTo {im : Nat -> Prop} {μ : Mu} {a : Act} {w : World} (hi : Inv C im μ s a w) {o : Nat} {lc : vS} {fr : List (Nat × AV)} {st : xx} (ho : s.hp o = some (.rc (.loop lc fr st))) :
  ∃ l r, μ o = .at l /\ w.heap[l]? = some (.loop r) /\ st.ok r /\ r.params = lc.ps /\ r.assign = lc.assign /\ r.body = lc.body /\ r.tmps.size = lc.n /\ (∀ p ∈ fr, bC w im μ s.hp p.2 (r.tmps.getD p.1 Go.undef)) /\
   ∀ (r' : Loop) (C6 : xx), r'.params = r.params -> r'.assign = r.assign -> r'.body = r.body -> r'.tmps = r.tmps -> C6.ok r' -> Inv C im μ ⟨s.fr, aG s.hp [(o, .rc (.loop lc fr C6))]⟩ a (w.putObj l (.loop r')) := by
 obtain ⟨l, x, hl, hx, r, rfl, h1, h2, h3, h4, h5, h6⟩ := hi.obj o _ ho
 refine ⟨l, r, hl, hx, h6, h1, h2, h3, h4, h5, fun r' C6 e1 e2 e3 e4 e5 => ?_⟩
 have cn : l < w.heap.size := (Array.getElem?_eq_some_iff.1 hx).1
 have gU : ∀ ob, s.hp o = some ob -> cZ ob (μ o) (.rc (.loop lc fr C6)) (μ o) := fun ob ef => by
  rw [ho] at ef; cases ef; exact ⟨rfl, rfl⟩
 have hw : ki w (w.putObj l (.loop r')) (μ o).blk := ⟨rfl, rfl, rfl, by simp, fun b _ hb => World.putObj_heap_other (by rintro rfl; exact hb (by rw [hl]; rfl))⟩
 have ev := hi.evObj gU hw
 have hmu : jD μ o (μ o) = μ := by funext y; unfold jD; cases hb : Nat.beq y o with | true => rw [bo hb]; rfl | false => rfl
 have := hi.obj1 (dst := none) (av := .undef) (v := Go.undef) gU hw (fun b hb => ⟨by simpa using (hi.sep o b hb).2.1, .inl hb⟩) (by
  rw [hl]
  exact ⟨l, _, rfl, World.putObj_heap_same cn, r', rfl, e1.trans h1, e2.trans h2, e3.trans h3, by rw [e4]; exact h4, fun p hp => by rw [e4]; have := (h5 p hp).ev ev; rw [hl] at this; exact this, e5⟩) (fun d h => by cases h) trivial
 rw [hmu] at this
 exact this
theorem xM {Γ : Nat -> Option AV} {o : Nat} {lc : vS} {fr : List (Nat × AV)} {args : List AV} {h0 : Hp} {R : Bool -> Hp -> Prop} {f : Nat -> AV} (hgf : ∀ g v, Γ g = some v -> v.free = true) (ho : h0 o = some (.rc (.loop lc fr .ready)))
  (hf : ∀ x, f x = .undef \/ ∃ a, (x, a) ∈ fr /\ f x = a) (hlen : lc.ps.size = args.length) (PG : ∀ t ∈ lc.ps.toList, t < lc.n)
  (h : ∀ W im μ l, AW P (P8 W im μ h0 lc.n Γ l) lc.assign (fun ex s1 => ex = .normal /\ ∃ oQ oR, s1.hp o = some (.rc (.loop oQ oR .ready)) /\
   AW P (P8 W im μ h0 lc.n Γ l) lc.body (adz h0 o R) ⟨s1.fr, aG s1.hp [(o, .rc (.loop oQ oR .busy))]⟩) ⟨qS f lc.ps.toList args, h0⟩) : DG P Γ o args h0 R := by
 intro W im μ l vals iR hglob hI hl hargs
 obtain ⟨l', x, vp, hx, r, rfl, h1, h2, h3, h4, h5, h6⟩ := hI.obj o _ ho
 obtain rfl : l' = l := by rw [hl] at vp; cases vp; rfl
 have hvl := jk hargs
 refine ⟨r, hx, by rw [hvl, h1]; exact hlen.symm, ?_⟩
 have hfold : (r.params.zip vals.toArray).foldl (fun tmps p => tmps.setIfInBounds p.1 p.2) r.tmps = (lc.ps.toList.zip vals).foldl (fun tmps p => tmps.setIfInBounds p.1 p.2) r.tmps := by
  rw [h1, ← Array.foldl_toList, Array.toList_zip]
 rw [hfold]
 have rR : ∀ x, bC W im μ h0 (f x) (r.tmps.getD x Go.undef) := fun x => by
  rcases hf x with h | ⟨a, ha, h⟩
  ·rw [h]; trivial
  ·rw [h]; exact h5 _ ha
 obtain ⟨hrep, gk⟩ := wi lc.ps.toList args vals f r.tmps hargs (by simpa using hlen) (fun t ht => by rw [h4]; exact PG t ht) rR
 have hinv : Inv (P8 W im μ h0 lc.n Γ l') im μ ⟨qS f lc.ps.toList args, h0⟩ { tmps := (lc.ps.toList.zip vals).foldl (fun tmps p => tmps.setIfInBounds p.1 p.2) r.tmps, defers := [] } W := by
  refine ⟨rfl, rfl, rfl, Nat.le_refl _, fun _ _ _ => rfl, fun _ h => h, fun _ h => .inl h, iR, (fun o b h => ⟨(hI.sep o b h).1, (hI.sep o b h).2, .inl ⟨o, h⟩⟩), hI.inj, hI.dom, hI.obj, fun g v h => ?_, hrep, ?_, ⟨[], rfl, List.nodup_nil, fun _ => rfl, fun r hr => by cases hr⟩, fun o ob h => ⟨ob, h, cZ.refl _ _⟩⟩
  ·obtain ⟨h1, h2⟩ := (hglob g v h).toA (fP (hgf g v h))
   exact bC.ofA (RepA.free _ _ (hgf g v h) h1) h2
  ·show _ = lc.n
   rw [gk]; exact h4
 rw [h2, h3]
 refine roundIn_of_wpIn (F := Fence.wide) trivial ?_
 refine wpIn_mono (h W im μ l' _ _ ⟨im, μ, hinv⟩) ?_
 rintro e a1 w1 ⟨ae, s1, rfl, ⟨rfl, oQ, oR, Dg, hbody⟩, PH, Fa, iT⟩
 have Df : Fa o = .at l' := by
  obtain ⟨cx, g1, g2⟩ := iT.pin o _ ho
  rw [Dg] at g1; cases g1
  exact g2.1.trans hl
 obtain ⟨l1, r1, C5, sA, hst1, _, _, _, _, _, hto⟩ := iT.loopTo Dg
 obtain rfl : l1 = l' := by rw [Df] at C5; cases C5; rfl
 refine ⟨_, run_beginRound sA hst1.1, ?_⟩
 have ma := hto { r1 with state := .busy } .busy rfl rfl rfl rfl rfl
 refine wpIn_mono (hbody _ _ ⟨PH, Fa, ma⟩) ?_
 rintro e a3 w3 ⟨ae, s3, rfl, ⟨j, PE, PF, σ, vl, hj, ho3, hH, hpin, hR⟩, im3, μ3, xq⟩
 have hl3 : μ3 o = .at l1 := by
  obtain ⟨cx, g1, g2⟩ := xq.pin o _ ho
  rw [ho3] at g1; cases g1
  exact g2.1.trans hl
 obtain ⟨l3, r3, hm3, hx3, hst3, _, _, _, _, _, hto3⟩ := xq.loopTo ho3
 obtain rfl : l3 = l1 := by rw [hl3] at hm3; cases hm3; rfl
 have hfin : ∀ (jc : Option Code), jc = j.map Jmp.code -> ∃ v w', (Instr.endRound l3 jc).run P w3 = .ok v w' /\ ∃ c h1 bT bm, Ending.returned v = .returned (.bool c) /\ R c h1 /\ dx W im μ h0 w' bT bm h1 := by
  rintro jc rfl
  refine ⟨_, _, run_endRound _ hx3, j.isNone, vl, im3, fw σ μ3, by cases j <;> rfl, hR, ?_⟩
  have Di := hto3 { r3 with state := if (j.map Jmp.code).isNone then .ready else .done, pending := j.map Jmp.code } (wj j) rfl rfl rfl rfl (by cases j with | none => exact ⟨rfl, rfl⟩ | some j => exact ⟨rfl, rfl⟩)
  have kO : ∀ (hpin : ∀ o ob, h0 o = some ob -> σ.get o = some (o, .keep)), dx W im μ h0 (w3.putObj l3 (.loop { r3 with state := if (j.map Jmp.code).isNone then .ready else .done, pending := j.map Jmp.code })) im3 (fw σ μ3) vl := fun hpin => by
   obtain ⟨hI', hS'⟩ := hH.inv (fun o b h => ⟨(Di.sep o b h).1, (Di.sep o b h).2.1⟩) Di.inj Di.obj
   refine ⟨Di.os, Di.tape, Di.output, Di.grow, fun b hb hno => Di.old b hb (fun ⟨o, ho⟩ => hno o ho), Di.imC, Di.imNew, Di.imLt, fun o b h => ?_, fun o ob ef => ?_, hI'⟩
   ·unfold fw at h
    cases hq : σ.inv o with
    | none => rw [hq] at h; cases h
    | some o1 => rw [hq] at h; exact (Di.sep o1 b h).2.2
   ·have hσ := hpin o ob ef
    obtain ⟨nO, k1, k2⟩ := Di.pin o ob ef
    obtain ⟨g1, g2⟩ := hS'.ob o o .keep hσ
    obtain ⟨sy, k3, k4⟩ := g2 nO k1
    refine ⟨sy, k3, ?_⟩
    rw [g1]
    exact cZ.obR k2 k4
  exact kO hpin
 cases ae with
 | normal => cases hj; exact hfin none rfl
 | ret => cases hj; exact hfin (some .ret) rfl
 | exit id => cases hj; exact hfin (some (.exit id)) rfl
 | panic t n => cases hj
def P9 (Q : AEx -> ASt -> Prop) (S : ASt) : xx -> Prop
 | .ready => Q .normal S
 | .done .ret => Q .ret S
 | .done (.exit id) => Q (.exit id) S
 | _ => False
theorem Ku (w : World) (x y : Obj) : ((w.alloc x).alloc y).heap[w.heap.size]? = some x /\ ((w.alloc x).alloc y).heap[w.heap.size + 1]? = some y /\ ((w.alloc x).alloc y).heap.size = w.heap.size + 2 /\ ∀ b, b < w.heap.size -> ((w.alloc x).alloc y).heap[b]? = w.heap[b]? := by
 refine ⟨?_, ?_, by simp, fun b hb => ?_⟩
 ·rw [heap_alloc_old _ _ (by simp)]; exact World.alloc_heap_new w x
 ·have := World.alloc_heap_new (w.alloc x) y
  rw [show (w.alloc x).heap.size = w.heap.size + 1 by simp] at this
  exact this
 ·rw [heap_alloc_old _ _ (by simp; omega), heap_alloc_old _ _ hb]
theorem xN {Q : AEx -> ASt -> Prop} {fop : Operand} {ps : Array Tmp} {assign body : Code} {f : FuncId} {cap args : List AV} {fr : List (Nat × AV)} {o d : Nat} {σ dc : Sg} {hh H1 : Hp} {wr : List (Nat × al)} {AE : aq} (hg : fc C) (hnm : C.nm = false) (C4 : C.rd = none)
  (hx : s.ev C fop = .fn (.func f) [] cap) (h0 : s.hp o = none) (rR : ∀ p ∈ fr, p.2 = s.fr p.1) {ob : al} (ef : ob = .rc (.loop ⟨d, ps, assign, body, C.n⟩ fr .ready))
  (hargs : rens σ (.ref o :: cap) = some args) (H : cN σ (aG s.hp [(o, ob)]) hh) (hf : FnH P C.Γ f args hh (fun ae h1 => ae = AE /\ h1 = H1)) (B : oW σ dc (aG s.hp [(o, ob)]) H1 wr)
  (hret : ∀ rs, AE = .ret rs -> ∃ oQ oR st, aG (aG s.hp [(o, ob)]) wr o = some (.rc (.loop oQ oR st)) /\ P9 Q ⟨s.fr, aG (aG (aG s.hp [(o, ob)]) wr) [(o, .rc (.loop oQ oR .over))]⟩ st)
  (hpan : ∀ t n, AE = .panic t n -> Q (.panic t n) ⟨s.fr, aG (aG s.hp [(o, ob)]) wr⟩) : AW P C (.rangeFunc fop ps assign body) Q s := by
 subst ef
 rintro a w ⟨im, μ, hi⟩
 obtain ⟨hr, cY⟩ := hx ▸ hi.ev fop
 simp only [RepA, RepFs] at hr
 obtain ⟨vs, us, hcell, HA, hus⟩ := hr
 subst HA
 have hv : a.eval fop = .func (.func f) #[] us.toArray := by
  generalize a.eval fop = v at hcell cY
  cases v <;> simp_all [Value.cells, bh, AV.isAgg]
 refine wpIn_rangeFunc fun fn _ => ?_
 obtain ⟨k1, k2, k3, k4⟩ := Ku w (.deferred (some [])) (.loop { state := .ready, pending := none, fn, tmps := a.tmps, params := ps, assign, body, defers := w.heap.size })
 have henter := run_enterLoop_outer (P := P) (w := w) fn a.tmps ps assign body
 generalize hw2 : (w.alloc (.deferred (some []))).alloc (.loop { state := .ready, pending := none, fn, tmps := a.tmps, params := ps, assign, body, defers := w.heap.size }) = w2 at k1 k2 k3 k4 henter
 have hw : ki w w2 (μ o).blk := by
  rw [← hw2]
  exact ⟨rfl, rfl, rfl, by simp; omega, fun b hb _ => by rw [hw2]; exact k4 b hb⟩
 have hmo : (μ o).blk = none := by rw [hi.dom o h0]; rfl
 have gU : ∀ ob, s.hp o = some ob -> cZ ob (μ o) (.rc (.loop ⟨d, ps, assign, body, C.n⟩ fr .ready)) (.at (w.heap.size + 1)) := fun ob h => by rw [h0] at h; cases h
 have ev := hi.evObj gU hw
 have iT := hi.obj1 (dst := none) (av := .undef) (v := Go.undef) gU hw (fun b hb => by cases hb; exact ⟨by omega, .inr (by omega)⟩)
  ⟨_, _, rfl, k2, _, rfl, rfl, rfl, rfl, hi.size, fun p hp => by rw [rR p hp]; exact (hi.fr p.1).ev ev, rfl, rfl⟩ (fun d h => by cases h) trivial
 have ma : Inv C im (jD μ o (.at (w.heap.size + 1))) ⟨s.fr, aG s.hp [(o, .rc (.loop ⟨d, ps, assign, body, C.n⟩ fr .ready))]⟩ { a with defers := [Kf w.heap.size] ++ a.defers } w2 := by
  refine ⟨iT.os, iT.tape, iT.output, iT.grow, iT.old, iT.imC, iT.imNew, iT.imLt, iT.sep, iT.inj, iT.dom, iT.obj, iT.glob, iT.fr, iT.size, ?_, iT.pin⟩
  obtain ⟨rs, h1, h2⟩ := hi.defers
  refine ⟨w.heap.size :: rs, by rw [h1]; rfl, List.nodup_cons.2 ⟨fun hm => by have := (h2.all _ hm).2.1; omega, h2.nodup⟩, (fun h => by rw [hnm] at h; cases h), fun r hr => ?_⟩
  rcases List.mem_cons.1 hr with rfl | hr
  ·refine ⟨hi.grow, by omega, fun h => by have := hi.imLt _ h; omega, fun x hx => ?_, k1⟩
   by_cases e : x = o
   ·subst e; rw [bO] at hx; simp [Pl.blk] at hx
   ·rw [da _ _ e] at hx; have := (hi.sep x _ hx).2.1; omega
  ·obtain ⟨g1, g2, g3, g4, g5⟩ := h2.all r hr
   refine ⟨g1, by omega, g3, fun x hx => ?_, (k4 r g2).trans g5⟩
   by_cases e : x = o
   ·subst e
    rw [bO] at hx
    have hx2 : w.heap.size + 1 = r := by simpa [Pl.blk] using hx
    omega
   ·rw [da _ _ e] at hx; exact g4 x hx
 generalize hmu : jD μ o (.at (w.heap.size + 1)) = HD at ma ev
 have hmo2 : HD o = .at (w.heap.size + 1) := by rw [← hmu, bO]
 have hA : RepFs w2 im HD (aG s.hp [(o, .rc (.loop ⟨d, ps, assign, body, C.n⟩ fr .ready))]) (.ref o :: cap) (.func (.yield (w.heap.size + 1)) #[] #[] :: us) := by
  simp only [RepFs, RepA]
  exact ⟨_, _, rfl, ⟨_, _, hmo2, dP _ _ _, rfl⟩, rfl, RepFs.ev ev _ _ hus⟩
 obtain ⟨hI, hS⟩ := H.inv (fun o b h => ⟨(ma.sep o b h).1, (ma.sep o b h).2.1⟩) ma.inj ma.obj
 have hAll' := RepFs.ren hS _ _ _ hargs hA
 have hcalls := hf.2 w2 im (fw σ HD) _ ma.imLt (fun g v h => by
  obtain ⟨h1, h2⟩ := (ma.glob g v h).toA (fP (hg g v h))
  exact bC.ofA (RepA.free _ _ (hg g v h) h1) h2) hI hAll'
 refine ⟨w.heap.size + 1, [Kf w.heap.size], w2, ⟨.fn (.func f) us.toArray, #[.func (.yield (w.heap.size + 1)) #[] #[]]⟩, w2, f, (.func (.yield (w.heap.size + 1)) #[] #[] :: us).toArray, w2, ?_, ?_, fun f' _ => n9 _ f', ?_, (fun h => nomatch h), ?_⟩
 ·show (Instr.enterLoop fn a.tmps ps assign body C.rd).run P w = _
  rw [C4]; exact henter
 ·simp only [resolve, hv, Deferred.ofValue, Sem.run_pure]
  simp [Act.eval]
 ·have := hf.1 (#[.func (.yield (w.heap.size + 1)) #[] #[]] ++ us.toArray) w2
  simp only [invoke]
  rw [this]
  simp
 ·have hci : CallsIn (fen C.rd) (0 - 1) P f (.func (.yield (w.heap.size + 1)) #[] #[] :: us).toArray w2 _ := (callsIn_wide (n := 0 - 1)).2 hcalls
  refine hci.mono ?_
  rintro e w' ⟨ae, h1, bT, bm, ⟨rfl, rfl⟩, kO, he⟩
  have hback := ma.back (dst := none) H B kO (fun d h => by cases h) (av := .undef) (v := Go.undef) trivial
  obtain ⟨o', φ, hσo⟩ : ∃ o' φ, σ.get o = some (o', φ) := by
   simp only [rens, AV.ren] at hargs
   cases xv : σ.get o with
   | none => rw [xv] at hargs; cases hargs
   | some of => exact ⟨of.1, of.2, rfl⟩
  obtain ⟨xr, hσ'o, _⟩ := B.passed o o' φ hσo
  have hmo3 : gY dc bm HD o = .at (w.heap.size + 1) := by
   rw [show gY dc bm HD o = bm o' from by simp only [gY, Sg.inv_of_get B.good hσ'o]]
   obtain ⟨nO, ob1', g1, g2, g3⟩ := H.fwd o o' φ hσo
   rw [dP] at g1
   cases g1
   obtain ⟨sy, g4, g5⟩ := kO.fob o' _ g3
   have hmi : fw σ HD o' = HD o := by simp only [fw, Sg.inv_of_get H.good hσo]
   have hk := al.ren_obR g2
   cases ob1' with
   | box _ => exact hk.elim
   | arr _ _ _ _ _ => exact hk.elim
   | rc r1 =>
    cases sy with
    | box _ => exact g5.elim
    | arr _ _ _ _ _ => exact g5.elim
    | rc r2 => rw [g5.1, hmi, hmo2]
  cases ae with
  | ret rs =>
   obtain ⟨v, rfl, _⟩ := sV he
   obtain ⟨oQ, oR, st, hol, hend⟩ := hret rs rfl
   obtain ⟨l, r, hl, hxl, hok, _, _, _, _, _, hto⟩ := hback.loopTo (o := o) hol
   obtain rfl : l = w.heap.size + 1 := by rw [hmo3] at hl; cases hl; rfl
   have Di := hto { r with state := .exhausted } .over rfl rfl rfl rfl trivial
   have hrel : Rel C ⟨s.fr, aG (aG (aG s.hp [(o, .rc (.loop ⟨d, ps, assign, body, C.n⟩ fr .ready))]) wr) [(o, .rc (.loop oQ oR .over))]⟩ { a with defers := [Kf w.heap.size] ++ a.defers } (w'.putObj (w.heap.size + 1) (.loop { r with state := .exhausted })) := ⟨bT, _, Di⟩
   show ∃ jump w₄, _ /\ _
   cases st with
   | ready =>
    exact ⟨none, _, (run_endLoop hxl (by rw [hok.1]; simp)).trans (congrArg (fun p => Result.ok p _) hok.2), ⟨.normal, _, rfl, hend, hrel⟩⟩
   | busy => exact hend.elim
   | over => exact hend.elim
   | done j =>
    refine ⟨some j.code, _, (run_endLoop hxl (by rw [hok.1]; simp)).trans (congrArg (fun p => Result.ok p _) hok.2), ?_⟩
    cases j with
    | ret => exact wpIn_ret ⟨.ret, _, rfl, hend, hrel⟩
    | exit id => exact wpIn_exit ⟨.exit id, _, rfl, hend, hrel⟩
  | panic t n =>
   have JV : e = .panicked [{ v := .iface t (.int .i64 n), recovered := false }] := he
   subst JV
   exact ⟨.panic t n, _, rfl, hpan t n rfl, ⟨bT, _, hback⟩⟩
end
end Go.Vm
