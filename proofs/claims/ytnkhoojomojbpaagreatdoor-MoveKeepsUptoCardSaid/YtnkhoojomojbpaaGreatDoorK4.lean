/- Part D of the abstract machine: a region that draws its order: one chain in the text's order serves every order, if 'checkD' says yes. -/
import Derived.Test.YtnkhoojomojbpaaGreatDoorK3
namespace Go.Vm
def qG (L : Nat -> Bool) : Nat -> Nat
 | 0 => 0
 | n + 1 => qG L n + bif L n then 0 else 1
theorem vf {L : Nat -> Bool} : ∀ {n : Nat}, qG L n = 0 -> ∀ j, j < n -> L j = true
 | n + 1, h, j, hj => by
  simp only [qG] at h
  have hl : L n = true := by
   grind
  rw [hl] at h
  simp only [ai, Nat.add_zero] at h
  by_cases e : j = n
  ·grind
  ·exact vf (by omega) j (by omega)
theorem rI {L L' : Nat -> Bool} : ∀ n, (∀ j, j < n -> L' j = L j) -> qG L' n = qG L n
 | 0, _ => rfl
 | n + 1, h => by simp only [qG]; rw [rI n (fun j hj => h j (by omega)), h n (by omega)]
theorem zt {L L' : Nat -> Bool} {i : Nat} (hi : L i = false) (fc : L' i = true) (h : ∀ j, j ≠ i -> L' j = L j) : ∀ n, i < n -> qG L' n + 1 = qG L n
 | n + 1, hn => by
  simp only [qG]
  by_cases e : i = n
  ·grind [rI]
  ·rw [h n (Ne.symm e)]
   have := zt hi fc h n (by omega)
   omega
theorem rJ (cl : List Nat) (i : Nat) : ∀ (l : List Edge) (acc : Nat),
  (l.foldl (fun acc e => if Region.binds .any e then acc ||| (2 ^ e.on ||| cl.getD e.on 0) else acc) acc).testBit i = true ->
  acc.testBit i = true \/ ∃ e ∈ l, Region.binds .any e = true /\ (i = e.on \/ (cl.getD e.on 0).testBit i = true)
 | [], acc, h => .inl h
 | e :: l, acc, h => by
  rcases rJ cl i l _ h with h | ⟨e', J5, h'⟩
  all_goals grind
theorem vg {o : Oper} {cl : List Nat} {i : Nat} (h : (n3 o cl).testBit i = true) : ∃ e ∈ o.after.toList, Region.binds .any e = true /\ (i = e.on \/ (cl.getD e.on 0).testBit i = true) := by
 unfold n3 at h
 rw [← Array.foldl_toList] at h
 rcases rJ cl i _ _ h with h | h
 ·simp at h
 ·exact h
section
variable {P : Program} {C : Ctx} {ops : Array Oper}
structure ad1 (ops : Array Oper) (es : List Eff) (cl : List Nat) : Prop where
 len : es.length = ops.size
 clo : ∀ j o, ops[j]? = some o -> ∀ i, (cl.getD j 0).testBit i = true -> (n3 o cl).testBit i = true
 edge : ∀ j o, ops[j]? = some o -> ∀ e ∈ o.after.toList, Region.binds .any e = true -> e.on < j
 pair : ∀ i j oi oj ei ej, i < j -> ops[i]? = some oi -> ops[j]? = some oj -> es[i]? = some ei -> es[j]? = some ej -> (cl.getD j 0).testBit i = true \/ wU ops oi oj ei ej = true
theorem zu {es : List Eff} {cl : List Nat} (h : dU ops es cl = true) : ad1 ops es cl := by
 unfold dU at h
 simp only [ba, List.all_eq_true, List.mem_range] at h
 obtain ⟨⟨h1, _⟩, h2⟩ := h
 refine ⟨bj h1, ?_, ?_, ?_⟩
 ·intro j o ho i hb
  have hj : j < ops.size := (Array.getElem?_eq_some_iff.1 ho).1
  grind [bj]
 ·intro j o ho e he hb
  have hj : j < ops.size := (Array.getElem?_eq_some_iff.1 ho).1
  have := h2 j hj
  simp only [ho, ba] at this
  have h3 := List.all_eq_true.1 this.1.2 e he
  simp only [hb, Bool.not_true, Bool.false_or] at h3
  exact Nat.le_of_ble_eq_true (by simpa [Nat.blt] using h3)
 ·intro i j oi oj ei ej hij lD hoj PB nZ
  have hj : j < ops.size := (Array.getElem?_eq_some_iff.1 hoj).1
  have := h2 j hj
  simp only [hoj, ba, List.all_eq_true, List.mem_range] at this
  have h3 := this.2 i hij
  simp only [lD, PB, nZ, Bool.or_eq_true] at h3
  exact h3
def ad2 (ops : Array Oper) (L : Nat -> Bool) : Prop := ∀ j o, ops[j]? = some o -> L j = true -> ∀ e ∈ o.after.toList, Region.binds .any e = true -> L e.on = true
theorem zv {es : List Eff} {cl : List Nat} (hc : ad1 ops es cl) {L : Nat -> Bool} (hd : ad2 ops L) :
  ∀ j o, ops[j]? = some o -> L j = true -> ∀ i, (cl.getD j 0).testBit i = true -> L i = true := by
 intro j
 induction j using Nat.strongRecOn with
 | _ j ih =>
  intro o ho hl i hb
  obtain ⟨e, he, hbd, hi⟩ := vg (hc.clo j o ho i hb)
  have bJ := hc.edge j o ho e he hbd
  have hle := hd j o ho hl e he hbd
  grind
theorem fR {d : Nat} {l : List Nat} (h : d ∈ l) : l.any (Nat.beq d) = true := List.any_eq_true.2 ⟨d, h, Nat.beq_refl d⟩
theorem gE {oi oj : Oper} {ei ej : Eff} (h : wU ops oi oj ei ej = true) :
  (∀ d, oi.dst = some d -> d ∉ oj.looksAt ops) /\ (∀ d, oi.dst = some d -> oj.dst ≠ some d) /\ (∀ d, oj.dst = some d -> d ∉ oi.looksAt ops) /\
  (∀ k, k ∈ ei.wr.map (·.1) -> k ∉ ej.rd /\ k ∉ ej.wr.map (·.1)) /\ (∀ k, k ∈ ej.wr.map (·.1) -> k ∉ ei.rd) := by
 unfold wU at h
 simp only [ba] at h
 obtain ⟨⟨⟨h1, h2⟩, h3⟩, h4⟩ := h
 refine ⟨?_, ?_, ?_, ?_, ?_⟩
 ·intro d hd hm
  simp_all [ba, Bool.not_eq_true', fR]
 ·grind [Nat.beq_refl]
 ·grind [Bool.not_eq_true', fR]
 ·intro k hk
  obtain ⟨p, hp, rfl⟩ := List.mem_map.1 hk
  have := List.all_eq_true.1 h3 p hp
  simp only [ba, Bool.not_eq_true'] at this
  grind [fR, Nat.beq, List.any_eq_true, Nat.beq_refl]
 grind [List.all_eq_true, Bool.not_eq_true', fR]
theorem vh {x : Nat} {L : Nat -> Bool} : ∀ (es : List Eff) (s : ASt) (i j : Nat) (e : Eff), es[j]? = some e -> e.dst = some x -> L (i + j) = true ->
  (∀ j' e', j < j' -> es[j']? = some e' -> e'.dst = some x -> L (i + j') = false) -> (bY s es L i).fr x = e.val
 | e0 :: es, s, i, 0, e, he, hd, hl, hn => by
  simp only [List.getElem?_cons_zero, Option.some.injEq] at he
  subst he
  simp only [Nat.add_zero] at hl
  simp only [bY, hl, ai]
  have : (bY (e0.app s) es L (i + 1)).fr x = (bY (e0.app s) es (fun _ => false) (i + 1)).fr x :=
   fo es _ _ _ rfl (fun j e' J5 PC => by have := hn (j + 1) e' (by omega) (by simpa using J5) PC; rwa [show i + (j + 1) = i + 1 + j by omega] at this)
  simp_all [eU, Eff.app_fr_eq]
 | e0 :: es, s, i, j + 1, e, he, hd, hl, hn => by
  simp only [bY]
  refine vh es _ (i + 1) j e (by simpa using he) hd (by rwa [show i + 1 + j = i + (j + 1) by omega]) (fun j' e' hj J5 PC => ?_)
  have := hn (j' + 1) e' (by omega) (by simpa using J5) PC
  grind
 | [], _, _, _, _, he, _, _, _ => by simp at he
theorem qf {k : Nat} {L : Nat -> Bool} {hp0 : Hp} : ∀ (es : List Eff) (s : ASt) (i j : Nat) (e : Eff), es[j]? = some e -> k ∈ e.wr.map (·.1) -> L (i + j) = true ->
  (∀ j' e', j < j' -> es[j']? = some e' -> k ∈ e'.wr.map (·.1) -> L (i + j') = false) -> (bY s es L i).hp k = aG hp0 e.wr k
 | e0 :: es, s, i, 0, e, he, hd, hl, hn => by
  simp only [List.getElem?_cons_zero, Option.some.injEq] at he
  subst he
  simp only [Nat.add_zero] at hl
  simp only [bY, hl, ai]
  have : (bY (e0.app s) es L (i + 1)).hp k = (bY (e0.app s) es (fun _ => false) (i + 1)).hp k :=
   fp es _ _ _ rfl (fun j e' J5 PC => by have := hn (j + 1) e' (by omega) (by simpa using J5) PC; rwa [show i + (j + 1) = i + 1 + j by omega] at this)
  rw [this, eU _ _ _ _ (fun _ _ => rfl)]
  exact fI hd
 | e0 :: es, s, i, j + 1, e, he, hd, hl, hn => by
  simp only [bY]
  refine qf es _ (i + 1) j e (by simpa using he) hd (by rwa [show i + 1 + j = i + (j + 1) by omega]) (fun j' e' hj J5 PC => ?_)
  have := hn (j' + 1) e' (by omega) (by simpa using J5) PC
  grind
 | [], _, _, _, _, he, _, _, _ => by simp at he
def zw (P : Program) (C : Ctx) (ops : Array Oper) (cl : List Nat) (Qr : Exit -> Act -> World -> Prop) (s0 : ASt) (es : List Eff) : Prop :=
 ∀ (i : Nat) (o : Oper) (e : Eff), ops[i]? = some o -> es[i]? = some e -> e.dst = o.dst /\
 ∀ s1 : ASt, (∀ x ∈ o.looksAt ops, s1.fr x = (bY s0 es (fun k => Nat.blt k i) 0).fr x) -> (∀ k, (k ∈ e.rd \/ k ∈ e.wr.map (·.1)) -> s1.hp k = (bY s0 es (fun k => Nat.blt k i) 0).hp k) ->
 ((∀ j, j < i -> (cl.getD i 0).testBit j = true) -> (∀ j, i < j -> j < ops.size -> (cl.getD j 0).testBit i = true) -> s1 = bY s0 es (fun k => Nat.blt k i) 0) ->
 ∀ a w, Rel C s1 a w -> ∀ K : Act -> World -> Prop, (∀ a' w', Rel C (e.app s1) a' w' -> K a' w') -> wpOpIn (fen C.rd) 0 P ops Qr i K a w
theorem ASt.ext' {s t : ASt} (h1 : ∀ x, s.fr x = t.fr x) (h2 : ∀ k, s.hp k = t.hp k) : s = t := by
 have e1 := funext h1
 have e2 := funext h2
 cases s with
 | mk f1 p1 =>
  simp_all
theorem zx {s0 : ASt} {es : List Eff} {cl : List Nat} {Qr : Exit -> Act -> World -> Prop} (kf : zw P C ops cl Qr s0 es) (hck : dU ops es cl = true)
  (hQ : ∀ a w, Rel C (db s0 es) a w -> Qr .normal a w) :
  ∀ (fuel : Nat) (listed : Array Bool) (a : Act) (w : World), listed.size = ops.size -> ad2 ops (fun j => listed.getD j false) -> qG (fun j => listed.getD j false) ops.size <= fuel ->
   Rel C (bY s0 es (fun j => listed.getD j false) 0) a w -> wpAnyIn (fen C.rd) 0 P .any ops Qr fuel listed a w := by
 have hc := zu hck
 have hdst : ∀ (j : Nat) (o : Oper) (e : Eff), ops[j]? = some o -> es[j]? = some e -> e.dst = o.dst := fun j o e ho he => (kf j o e ho he).1
 have opAt : ∀ j : Nat, j < ops.size -> ops[j]? = some ops[j]! := by
  grind
 have allListed : ∀ (listed : Array Bool) a w, listed.size = ops.size -> (∀ j, j < ops.size -> listed.getD j false = true) -> Rel C (bY s0 es (fun j => listed.getD j false) 0) a w -> Qr .normal a w := by
  intro listed a w _ hall hr
  rw [lF es s0 _ 0 (fun j hj => by rw [Nat.zero_add]; exact hall j (by rw [← hc.len]; exact hj))] at hr
  exact hQ a w hr
 have noReady : ∀ (listed : Array Bool), listed.size = ops.size -> Region.ready .any ops listed = [] -> ∀ j, j < ops.size -> listed.getD j false = true := by
  intro listed fP hr j
  induction j using Nat.strongRecOn with
  | _ j ih =>
   intro hj
   cases hl : listed.getD j false with
   | true => rfl
   | false =>
    exfalso
    have hmem : j ∈ Region.ready .any ops listed := by
     unfold Region.ready
     rw [List.mem_filter]
     refine ⟨List.mem_range.2 hj, ?_⟩
     have hj' : j < listed.size := by omega
     have h1 : listed.getD j true = false := by
      grind
     rw [h1, opAt j hj]
     simp only [Bool.not_false, Bool.true_and, Option.map_some, Option.getD_some]
     rw [Array.all_eq_true_iff_forall_mem]
     intro e he
     cases hb : Region.binds .any e with
     | false => rfl
     | true =>
      have bJ := hc.edge j _ (opAt j hj) e (Array.mem_toList_iff.2 he) hb
      grind
    grind
 intro fuel
 induction fuel with
 | zero =>
  intro listed a w fP hd hcnt hr
  have hall := vf (Nat.le_zero.1 hcnt)
  refine ⟨?_, allListed listed a w fP hall hr⟩
  unfold Region.ready
  rw [List.filter_eq_nil_iff]
  intro i hi
  have hi := List.mem_range.1 hi
  have h1 := hall i hi
  have fc : i < listed.size := by omega
  have h2 : listed.getD i true = true := by
   simp only [Array.getD_eq_getD_getElem?, Array.getElem?_eq_getElem fc, Option.getD_some] at h1 ⊢; exact h1
  simp [h2]
 | succ fuel ih =>
  intro listed a w fP hd hcnt hr
  refine ⟨fun hnil => allListed listed a w fP (noReady listed fP hnil) hr, ?_⟩
  intro i hi
  unfold Region.ready at hi
  rw [List.mem_filter] at hi
  obtain ⟨hi, CP⟩ := hi
  have hi := List.mem_range.1 hi
  have fc : i < listed.size := by omega
  have lD := opAt i hi
  rw [lD] at CP
  simp only [Option.map_some, Option.getD_some, ba, Bool.not_eq_true'] at CP
  obtain ⟨EX, hpre⟩ := CP
  have hLi : listed.getD i false = false := by
   simp only [Array.getD_eq_getD_getElem?, Array.getElem?_eq_getElem fc, Option.getD_some] at EX ⊢; exact EX
  have hpre' : ∀ e ∈ (ops[i]!).after.toList, Region.binds .any e = true -> listed.getD e.on false = true := by
   intro e he hb
   have := Array.all_eq_true_iff_forall_mem.1 hpre e (Array.mem_toList_iff.1 he)
   simpa [hb] using this
  have hie : i < es.length := by rw [hc.len]; exact hi
  have PB : es[i]? = some es[i] := List.getElem?_eq_getElem hie
  obtain ⟨hde, hrun⟩ := kf i _ es[i] lD PB
  have closed := zv hc hd
  have preI : ∀ j, (cl.getD i 0).testBit j = true -> listed.getD j false = true := by
   intro j hj
   obtain ⟨e, he, hb, hje⟩ := vg (hc.clo i _ lD j hj)
   have hle := hpre' e he hb
   have bJ := hc.edge i _ lD e he hb
   rcases hje with rfl | hje
   ·exact hle
   ·exact closed e.on _ (opAt e.on (by omega)) hle j hje
  have postI : ∀ j, i < j -> j < ops.size -> (cl.getD j 0).testBit i = true -> listed.getD j false = false := by
   intro j _ CY hb
   cases hl : listed.getD j false with
   | false => rfl
   | true =>
    have := closed j _ (opAt j CY) hl i hb
    rw [hLi] at this; cases this
  have same : ∀ (j : Nat) (ej : Eff), es[j]? = some ej -> (∀ d, ¬ (j < i /\ wU ops (ops[j]!) (ops[i]!) ej es[i] = true /\ d = true) -> ¬ (i < j /\ wU ops (ops[i]!) (ops[j]!) es[i] ej = true /\ d = true) -> d = true -> listed.getD j false = Nat.blt j i) := by
   intro j ej nZ d h1 h2 hdt
   have CY : j < ops.size := by rw [← hc.len]; exact (List.getElem?_eq_some_iff.1 nZ).1
   rcases Nat.lt_trichotomy j i with bJ | heq | hgt
   ·have hbl : Nat.blt j i = true := Nat.ble_eq_true_of_le bJ
    rw [hbl]
    rcases hc.pair j i _ _ _ _ bJ (opAt j CY) lD nZ PB with h | h
    ·exact preI j h
    ·exact (h1 ⟨bJ, h, hdt⟩).elim
   ·subst heq
    rw [hLi]
    symm
    rw [← Bool.not_eq_true]; intro hb; have := Nat.le_of_ble_eq_true hb; omega
   ·have hbl : Nat.blt j i = false := by rw [← Bool.not_eq_true]; intro hb; have := Nat.le_of_ble_eq_true hb; omega
    rw [hbl]
    rcases hc.pair i j _ _ _ _ hgt lD (opAt j CY) PB nZ with h | h
    ·exact postI j hgt CY h
    ·exact (h2 ⟨hgt, h, hdt⟩).elim
  refine hrun (bY s0 es (fun j => listed.getD j false) 0) ?_ ?_ ?_ a w hr _ ?_
  ·intro x hx
   refine fo es s0 s0 0 rfl (fun j ej nZ hdj => ?_)
   have CY : j < ops.size := by rw [← hc.len]; exact (List.getElem?_eq_some_iff.1 nZ).1
   have hdj' : (ops[j]!).dst = some x := by rw [← hdst j _ _ (opAt j CY) nZ]; exact hdj
   rw [Nat.zero_add]
   refine same j ej nZ true (fun ⟨_, hdis, _⟩ => ?_) (fun ⟨_, hdis, _⟩ => ?_) rfl
   ·exact (gE hdis).1 x hdj' hx
   ·exact (gE hdis).2.2.1 x hdj' hx
  ·intro k hk
   refine fp es s0 s0 0 rfl (fun j ej nZ hkj => ?_)
   rw [Nat.zero_add]
   refine same j ej nZ true (fun ⟨_, hdis, _⟩ => ?_) (fun ⟨_, hdis, _⟩ => ?_) rfl
   ·have := (gE hdis).2.2.2.1 k hkj
    rcases hk with hk | hk
    ·exact this.1 hk
    ·exact this.2 hk
   ·rcases hk with hk | hk
    ·exact (gE hdis).2.2.2.2 k hkj hk
    ·exact ((gE hdis).2.2.2.1 k hk).2 hkj
  ·intro hb hbs
   have e1 : ∀ (j : Nat) (ej : Eff), es[j]? = some ej -> listed.getD j false = Nat.blt j i := by
    intro j ej nZ
    have hj : j < ops.size := by rw [← hc.len]; exact (List.getElem?_eq_some_iff.1 nZ).1
    rcases Nat.lt_or_ge j i with h | h
    ·rw [show Nat.blt j i = true from Nat.ble_eq_true_of_le h]
     exact preI j (hb j h)
    ·have hbl : Nat.blt j i = false := by rw [← Bool.not_eq_true]; intro hb; have := Nat.le_of_ble_eq_true hb; omega
     rw [hbl]
     rcases Nat.eq_or_lt_of_le h with rfl | h
     ·exact hLi
     ·exact postI j h hj (hbs j h hj)
   refine ASt.ext' (fun x => ?_) (fun k => ?_)
   ·exact fo es s0 s0 0 rfl (fun j ej nZ _ => by rw [Nat.zero_add]; exact e1 j ej nZ)
   ·exact fp es s0 s0 0 rfl (fun j ej nZ _ => by rw [Nat.zero_add]; exact e1 j ej nZ)
  ·intro a' w' lj
   have hL' : ∀ j, (listed.setIfInBounds i true).getD j false = bif Nat.beq j i then true else listed.getD j false := by
    intro j
    by_cases J6 : j = i
    ·subst J6
     simp [Array.getD_eq_getD_getElem?, fc]
    ·have hb : Nat.beq j i = false := by rw [← Bool.not_eq_true]; intro hb; exact J6 (bj hb)
     simp [hb, Array.getD_eq_getD_getElem?, Array.getElem?_setIfInBounds_ne (Ne.symm J6)]
   have hL'i : (listed.setIfInBounds i true).getD i false = true := by rw [hL' i, Nat.beq_refl]; rfl
   have hL'n : ∀ j, j ≠ i -> (listed.setIfInBounds i true).getD j false = listed.getD j false := by
    intro j J6
    have hb : Nat.beq j i = false := by rw [← Bool.not_eq_true]; intro hb; exact J6 (bj hb)
    rw [hL' j, hb]; rfl
   refine ih (listed.setIfInBounds i true) a' w' (by simpa using fP) ?_ ?_ ?_
   ·intro j o ho hlj e he hb
    show (listed.setIfInBounds i true).getD e.on false = true
    by_cases J6 : j = i
    ·subst J6
     obtain rfl : o = ops[j]! := Option.some.inj (ho.symm.trans lD)
     have bJ := hc.edge j _ ho e he hb
     rw [hL'n e.on (by omega)]
     exact hpre' e he hb
    ·have hlj' : listed.getD j false = true := by rw [← hL'n j J6]; exact hlj
     have := hd j o ho hlj' e he hb
     by_cases hei' : e.on = i
     ·rw [hei']; exact hL'i
     ·rw [hL'n _ hei']; exact this
   ·have := zt (L := fun j => listed.getD j false) (L' := fun j => (listed.setIfInBounds i true).getD j false) hLi hL'i hL'n ops.size hi
    omega
   ·have heq : (es[i]).app (bY s0 es (fun j => listed.getD j false) 0) = bY s0 es (fun j => (listed.setIfInBounds i true).getD j false) 0 := by
     have q7 : ∀ x, ((es[i]).app (bY s0 es (fun j => listed.getD j false) 0)).fr x = (bY s0 es (fun j => (listed.setIfInBounds i true).getD j false) 0).fr x := by
      intro x
      by_cases hx : (es[i]).dst = some x
      ·rw [Eff.app_fr_eq hx]
       symm
       refine vh es s0 0 i es[i] PB hx (by rw [Nat.zero_add]; exact hL'i) (fun j ej hij nZ hdj => ?_)
       have CY : j < ops.size := by rw [← hc.len]; exact (List.getElem?_eq_some_iff.1 nZ).1
       rw [Nat.zero_add]
       show (listed.setIfInBounds i true).getD j false = false
       rw [hL'n j (by omega)]
       rcases hc.pair i j _ _ _ _ hij lD (opAt j CY) PB nZ with h | h
       ·exact postI j hij CY h
       ·have hx' : (ops[i]!).dst = some x := by rw [← hde]; exact hx
        have hdj' : (ops[j]!).dst = some x := by rw [← hdst j _ _ (opAt j CY) nZ]; exact hdj
        exact ((gE h).2.1 x hx' hdj').elim
      ·rw [Eff.app_fr_ne hx]
       refine fo es s0 s0 0 rfl (fun j ej nZ hdj => ?_)
       rw [Nat.zero_add]
       have J6 : j ≠ i := by
        rintro rfl
        rw [PB] at nZ
        obtain rfl := Option.some.inj nZ
        exact hx hdj
       exact (hL'n j J6).symm
     have fA : ∀ k, ((es[i]).app (bY s0 es (fun j => listed.getD j false) 0)).hp k = (bY s0 es (fun j => (listed.setIfInBounds i true).getD j false) 0).hp k := by
      intro k
      by_cases hk : k ∈ (es[i]).wr.map (·.1)
      ·symm
       refine qf (hp0 := (bY s0 es (fun j => listed.getD j false) 0).hp) es s0 0 i es[i] PB hk (by rw [Nat.zero_add]; exact hL'i) (fun j ej hij nZ hdj => ?_)
       have CY : j < ops.size := by rw [← hc.len]; exact (List.getElem?_eq_some_iff.1 nZ).1
       rw [Nat.zero_add]
       show (listed.setIfInBounds i true).getD j false = false
       rw [hL'n j (by omega)]
       rcases hc.pair i j _ _ _ _ hij lD (opAt j CY) PB nZ with h | h
       ·exact postI j hij CY h
       ·exact (((gE h).2.2.2.1 k hk).2 hdj).elim
      ·show aG _ _ k = _
       rw [dL hk]
       refine fp es s0 s0 0 rfl (fun j ej nZ hdj => ?_)
       rw [Nat.zero_add]
       have J6 : j ≠ i := by
        rintro rfl
        rw [PB] at nZ
        obtain rfl := Option.some.inj nZ
        exact hk hdj
       exact (hL'n j J6).symm
     have e1 := funext q7
     have e2 := funext fA
     cases h1 : (es[i]).app (bY s0 es (fun j => listed.getD j false) 0) with
     | mk f1 p1 =>
      cases h2 : bY s0 es (fun j => (listed.setIfInBounds i true).getD j false) 0 with
      | mk f2 p2 => rw [h1, h2] at e1 e2; simp only at e1 e2; rw [e1, e2]
    rw [← heq]; exact lj
theorem zy {s0 : ASt} {es : List Eff} {cl : List Nat} {Qr : Exit -> Act -> World -> Prop} (hch : lE P C ops 0 s0 es) (hn : cz ops C.n = true) : zw P C ops cl Qr s0 es := by
 intro i o e ho he
 have h := lE.get es s0 0 i e hch he
 rw [Nat.zero_add] at h
 obtain ⟨h1, h2⟩ := h o ho (bK hn ho)
 grind
def Eff.bad (d : Option Nat) : Eff := ⟨d, .undef, [], [(0, .box .undef)]⟩
def Xn (P : Program) (C : Ctx) (ops : Array Oper) (Qr : Exit -> Act -> World -> Prop) (m : Nat) (s : ASt) : Prop := ∀ a w, Rel C s a w -> ∀ K : Act -> World -> Prop, wpOpIn (fen C.rd) 0 P ops Qr m K a w
def Eff.bad2 (d : Option Nat) : Eff := ⟨d, .undef, [0], []⟩
theorem Kd {s : ASt} {a : Act} {w : World} (he : s.hp 0 = some (.box .undef)) (h : Rel C s a w) : False := by
 obtain ⟨im, μ, hi⟩ := h
 have := hi.obj 0 (.box .undef) he
 obtain ⟨b, cells, T, _, _, h⟩ := this
 simp only [RepA] at h
theorem lG : ∀ (es fs : List Eff) (s : ASt) (L : Nat -> Bool) (i : Nat), bY s (es ++ fs) L i = bY (bY s es L i) fs L (i + es.length)
 | [], _, _, _, _ => rfl
 | e :: es, fs, s, L, i => by
  simp only [List.cons_append, bY]
  rw [lG es fs _ L (i + 1), List.length_cons, show i + 1 + es.length = i + (es.length + 1) by omega]
theorem vi : ∀ (ds : List (Option Nat)) (s : ASt) (L : Nat -> Bool) (i : Nat), (bY s (ds.map Eff.bad2) L i).hp 0 = s.hp 0
 | [], _, _, _ => rfl
 | d :: ds, s, L, i => by
  simp only [List.map_cons, bY]
  rw [vi ds _ L (i + 1)]
  cases L i <;> rfl
theorem Ke {es : List Eff} {d : Option Nat} {ds : List (Option Nat)} {s : ASt} {L : Nat -> Bool} (hL : L es.length = true) : (bY s (es ++ Eff.bad d :: ds.map Eff.bad2) L 0).hp 0 = some (.box .undef) := by
 rw [lG, Nat.zero_add]
 simp only [bY, hL, ai]
 rw [vi]
 rfl
theorem Hv {s0 : ASt} {es : List Eff} {cl : List Nat} {Qr : Exit -> Act -> World -> Prop} {om : Oper} {tl : List Oper} (hch : lE P C ops 0 s0 es) (hn : cz ops C.n = true) (hm : ops[es.length]? = some om) (htl : ops.toList.drop (es.length + 1) = tl)
  (hfull : ∀ j, j < es.length -> (cl.getD es.length 0).testBit j = true) (hback : ∀ j, es.length < j -> j < ops.size -> (cl.getD j 0).testBit es.length = true) (hP : Xn P C ops Qr es.length (db s0 es)) : zw P C ops cl Qr s0 (es ++ Eff.bad om.dst :: (tl.map (·.dst)).map Eff.bad2) := by
 have nb : ∀ i j : Nat, i <= j -> Nat.blt j i = false := fun i j h => by rw [← Bool.not_eq_true]; intro hb; have := Nat.le_of_ble_eq_true hb; omega
 have cut : ∀ (i : Nat), i <= es.length -> bY s0 (es ++ Eff.bad om.dst :: (tl.map (·.dst)).map Eff.bad2) (fun k => Nat.blt k i) 0 = bY s0 es (fun k => Nat.blt k i) 0 := by
  grind [lG, eU]
 intro i o e ho he
 rcases Nat.lt_trichotomy i es.length with h | h | h
 ·rw [List.getElem?_append_left h] at he
  have h0 := lE.get es s0 0 i e hch he
  rw [Nat.zero_add] at h0
  obtain ⟨h1, h2⟩ := h0 o ho (bK hn ho)
  refine ⟨h1, fun s1 ha hb _ a w hr K hK => ?_⟩
  rw [cut i (by omega)] at ha hb
  exact h2 s1 ha hb a w hr K _ hK
 ·subst h
  obtain rfl : o = om := Option.some.inj (ho.symm.trans hm)
  rw [List.getElem?_append_right (Nat.le_refl _), Nat.sub_self, List.getElem?_cons_zero] at he
  obtain rfl : Eff.bad o.dst = e := Option.some.inj he
  have e1 : bY s0 (es ++ Eff.bad o.dst :: (tl.map (·.dst)).map Eff.bad2) (fun k => Nat.blt k es.length) 0 = db s0 es :=
   (cut es.length (Nat.le_refl _)).trans (lF es s0 _ 0 (fun j hj => by rw [Nat.zero_add]; exact Nat.ble_eq_true_of_le hj))
  refine ⟨rfl, fun s1 _ _ hs a w hr K _ => ?_⟩
  rw [hs hfull hback, e1] at hr
  exact hP a w hr K
 ·rw [List.getElem?_append_right (by omega), show i - es.length = (i - es.length - 1) + 1 by omega, List.getElem?_cons_succ, List.getElem?_map, List.getElem?_map] at he
  have dS : tl[i - es.length - 1]? = some o := by
   rw [← htl, List.getElem?_drop, show es.length + 1 + (i - es.length - 1) = i by omega]
   simpa using ho
  rw [dS] at he
  obtain rfl : Eff.bad2 o.dst = e := Option.some.inj he
  refine ⟨rfl, fun s1 _ hb _ a w hr _ _ => ?_⟩
  have := hb 0 (.inl (by simp [Eff.bad2]))
  rw [Ke (es := es) (d := om.dst) (ds := tl.map (·.dst)) (s := s0) (L := fun k => Nat.blt k i) (Nat.ble_eq_true_of_le h)] at this
  exact (Kd this hr).elim
theorem E3 {q : Nat} {s : ASt} {a : Act} {w : World} (he : s.hp q = some (.box .undef)) (h : Rel C s a w) : False := by
 obtain ⟨im, μ, hi⟩ := h
 have := hi.obj q (.box .undef) he
 obtain ⟨b, cells, T, _, _, h⟩ := this
 simp only [RepA] at h
def uC (q : Nat) (rd : List Nat) (d : Option Nat) : Eff := ⟨d, .undef, rd, [(q, .box .undef)]⟩
def Hw (q : Nat) (d : Option Nat) : Eff := ⟨d, .undef, [q], []⟩
def zz : Option Nat -> List Nat
 | some d => [d]
 | none => []
inductive jh (P : Program) (C : Ctx) (ops : Array Oper) (cl : List Nat) (m q : Nat) : Nat -> ASt -> List Nat -> List Eff -> Prop
 | nil {i : Nat} {s : ASt} {dy : List Nat} : jh P C ops cl m q i s dy []
 | beh {i : Nat} {s : ASt} {dy : List Nat} {es : List Eff} {o : Oper} : ops[i]? = some o -> jh P C ops cl m q (i + 1) s (zz o.dst ++ dy) es -> jh P C ops cl m q i s dy (Hw q o.dst :: es)
 | free {i : Nat} {s : ASt} {dy : List Nat} {e : Eff} {es : List Eff} {o : Oper} : ops[i]? = some o -> (∀ x ∈ o.looksAt ops, x ∉ dy) -> (∀ k, (k ∈ e.rd \/ k ∈ e.wr.map (·.1)) -> k ≠ q) -> jg P C ops i s e -> jh P C ops cl m q (i + 1) (e.app s) dy es -> jh P C ops cl m q i s dy (e :: es)
theorem Xo {i j : Nat} (h : i <= j) : Nat.blt j i = false := by rw [← Bool.not_eq_true]; intro hb; have := Nat.le_of_ble_eq_true hb; omega
theorem P7 {i j : Nat} (h : j < i) : Nat.blt j i = true := Nat.ble_eq_true_of_le h
theorem C6 {cl : List Nat} {m q : Nat} (hn : cz ops C.n = true) {i : Nat} {s : ASt} {dy : List Nat} {es : List Eff} (h : jh P C ops cl m q i s dy es) : ∀ (T : ASt) (j : Nat) (e : Eff) (o : Oper),
  (∀ x, x ∉ dy -> T.fr x = s.fr x) -> (∀ k, k ≠ q -> T.hp k = s.hp k) -> T.hp q = some (.box .undef) -> es[j]? = some e -> ops[i + j]? = some o -> e.dst = o.dst /\
  ∀ s1 : ASt, (∀ x ∈ o.looksAt ops, s1.fr x = (bY T es (fun k => Nat.blt k (i + j)) i).fr x) -> (∀ k, (k ∈ e.rd \/ k ∈ e.wr.map (·.1)) -> s1.hp k = (bY T es (fun k => Nat.blt k (i + j)) i).hp k) ->
  ∀ a w, Rel C s1 a w -> ∀ (K : Act -> World -> Prop) (Q : Exit -> Act -> World -> Prop), (∀ a' w', Rel C (e.app s1) a' w' -> K a' w') -> wpOpIn (fen C.rd) 0 P ops Q (i + j) K a w := by
 induction h with
 | nil => intro T j e o _ _ _ he; simp at he
 | @beh i s dy es o0 ho0 _ ih =>
  intro T j e o q7 fA hq he ho
  cases j with
  | zero =>
   simp only [List.getElem?_cons_zero, Option.some.injEq] at he
   subst he
   rw [Nat.add_zero] at ho
   grind [Option.some.inj, eU, Hw, Nat.blt, Xo, E3]
  | succ j =>
   simp only [bY, P7 (show i < i + (j + 1) by omega), ai]
   rw [show i + (j + 1) = i + 1 + j by omega] at ho ⊢
   refine ih ((Hw q o0.dst).app T) j e o ?_ ?_ ?_ (by simpa using he) ho
   ·intro x hx
    have h1 : (Hw q o0.dst).dst ≠ some x := fun hd => by
     have PC : o0.dst = some x := hd
     rw [PC] at hx
     exact hx (by simp [zz])
    rw [Eff.app_fr_ne h1]
    exact q7 x (fun hm => hx (List.mem_append.2 (.inr hm)))
   ·intro k hk; exact fA k hk
   ·exact hq
 | @free i s dy e0 es o0 ho0 hlk hk0 hs _ ih =>
  intro T j e o q7 fA hq he ho
  cases j with
  | zero =>
   simp only [List.getElem?_cons_zero, Option.some.injEq] at he
   subst he
   rw [Nat.add_zero] at ho
   obtain rfl : o0 = o := Option.some.inj (ho0.symm.trans ho)
   obtain ⟨g1, g2⟩ := hs o0 ho0 (bK hn ho0)
   refine ⟨g1, fun s1 h1 h2 a w hr K Q hK => ?_⟩
   rw [eU (e0 :: es) T (fun k => Nat.blt k (i + 0)) i (fun k _ => Xo (by omega))] at h1 h2
   exact g2 s1 (fun x hx => (h1 x hx).trans (q7 x (hlk x hx))) (fun k hk => (h2 k hk).trans (fA k (hk0 k hk))) a w hr K Q hK
  | succ j =>
   simp only [bY, P7 (show i < i + (j + 1) by omega), ai]
   rw [show i + (j + 1) = i + 1 + j by omega] at ho ⊢
   refine ih (e0.app T) j e o ?_ ?_ ?_ (by simpa using he) ho
   ·intro x hx
    by_cases h1 : e0.dst = some x
    ·rw [Eff.app_fr_eq h1, Eff.app_fr_eq h1]
    ·rw [Eff.app_fr_ne h1, Eff.app_fr_ne h1]; exact q7 x hx
   ·intro k hk
    show aG _ _ k = aG _ _ k
    by_cases h1 : k ∈ e0.wr.map (·.1)
    ·exact fI h1
    ·rw [dL h1, dL h1]; exact fA k hk
   ·show aG _ _ q = _
    rw [dL (fun h1 => hk0 q (.inr h1) rfl)]; exact hq
theorem C7 {cl : List Nat} {m q : Nat} {i : Nat} {s : ASt} {dy : List Nat} {es : List Eff} (h : jh P C ops cl m q i s dy es) : ∀ (T : ASt), T.hp q = some (.box .undef) -> (db T es).hp q = some (.box .undef) := by
 induction h with
 | nil => exact fun _ h => h
 | beh _ _ ih => exact fun T h => ih _ h
 | @free i s dy e0 es o0 ho0 hlk hk0 hs _ ih =>
  intro T h
  refine ih _ ?_
  show aG _ _ q = _
  grind [dL]
def Xp (P : Program) (C : Ctx) (ops : Array Oper) (Qr : Exit -> Act -> World -> Prop) (m : Nat) (om : Oper) (rd : List Nat) (s : ASt) : Prop :=
 ∀ s1 : ASt, (∀ x ∈ om.looksAt ops, s1.fr x = s.fr x) -> (∀ k ∈ rd, s1.hp k = s.hp k) -> ∀ a w, Rel C s1 a w -> ∀ K : Act -> World -> Prop, wpOpIn (fen C.rd) 0 P ops Qr m K a w
theorem nf : ∀ (es fs : List Eff) (s : ASt), db s (es ++ fs) = db (db s es) fs
 | [], _, _ => rfl
 | e :: es, fs, s => nf es fs _
theorem E4 {q : Nat} {rd : List Nat} {d : Option Nat} {s : ASt} : ((uC q rd d).app s).hp q = some (.box .undef) := by
 show aG s.hp [(q, .box .undef)] q = _
 simp [aG, List.find?]
theorem C8 {s0 : ASt} {es uz : List Eff} {cl : List Nat} {Qr : Exit -> Act -> World -> Prop} {om : Oper} {q : Nat} {rd : List Nat} (hch : lE P C ops 0 s0 es) (hn : cz ops C.n = true) (hm : ops[es.length]? = some om)
  (hG : jh P C ops cl es.length q (es.length + 1) (db s0 es) (zz om.dst) uz) (hP : Xp P C ops Qr es.length om rd (db s0 es)) : zw P C ops cl Qr s0 (es ++ uC q rd om.dst :: uz) := by
 have cut : ∀ (i : Nat), i <= es.length -> bY s0 (es ++ uC q rd om.dst :: uz) (fun k => Nat.blt k i) 0 = bY s0 es (fun k => Nat.blt k i) 0 := by
  grind [lG, eU, Xo]
 have all : ∀ (i : Nat), es.length <= i -> bY s0 es (fun k => Nat.blt k i) 0 = db s0 es := fun i hi =>
  lF es s0 _ 0 (fun j hj => by rw [Nat.zero_add]; exact P7 (by omega))
 intro i o e ho he
 rcases Nat.lt_trichotomy i es.length with h | h | h
 ·rw [List.getElem?_append_left h] at he
  have h0 := lE.get es s0 0 i e hch he
  rw [Nat.zero_add] at h0
  obtain ⟨h1, h2⟩ := h0 o ho (bK hn ho)
  refine ⟨h1, fun s1 ha hb _ a w hr K hK => ?_⟩
  rw [cut i (by omega)] at ha hb
  grind
 ·subst h
  obtain rfl : o = om := Option.some.inj (ho.symm.trans hm)
  rw [List.getElem?_append_right (Nat.le_refl _), Nat.sub_self, List.getElem?_cons_zero] at he
  obtain rfl : uC q rd o.dst = e := Option.some.inj he
  refine ⟨rfl, fun s1 ha hb _ a w hr K _ => ?_⟩
  rw [cut _ (Nat.le_refl _), all _ (Nat.le_refl _)] at ha hb
  exact hP s1 ha (fun k hk => hb k (.inl hk)) a w hr K
 ·obtain ⟨j, rfl⟩ : ∃ j, i = es.length + 1 + j := ⟨i - (es.length + 1), by omega⟩
  rw [List.getElem?_append_right (by omega), show es.length + 1 + j - es.length = j + 1 by omega, List.getElem?_cons_succ] at he
  have hg := C6 hn hG ((uC q rd om.dst).app (db s0 es)) j e o ?_ ?_ E4 he ho
  ·refine ⟨hg.1, fun s1 ha hb _ a w hr K hK => ?_⟩
   rw [lG, all _ (by omega)] at ha hb
   simp only [bY, Nat.zero_add, P7 (show es.length < es.length + 1 + j by omega), ai] at ha hb
   exact hg.2 s1 ha hb a w hr K _ hK
  ·intro x hx
   exact Eff.app_fr_ne (fun hd => hx (by have PC : om.dst = some x := hd; rw [PC]; simp [zz]))
  ·intro k hk
   show aG _ _ k = _
   exact dL (fun h1 => hk (by simpa [uC] using h1))
end
theorem Rel.world {C : Ctx} {s : ASt} {a : Act} {w w' : World} (h : Rel C s a w) (hheap : w'.heap = w.heap) (hos : w'.os = w.os) (htape : w'.tape = w.tape) (hout : w'.output = w.output) : Rel C s a w' := by
 obtain ⟨im, μ, hi⟩ := h
 have hb : ∀ b : Nat, w'.heap[b]? = w.heap[b]? := fun b => by rw [hheap]
 have ev : Ev w im μ s.hp w' im μ s.hp := ⟨fun _ h => h, fun b _ => hb b, fun o ob ho => ⟨ob, ho, cA.refl _ _⟩⟩
 exact ⟨im, μ, hos.trans hi.os, htape.trans hi.tape, hout.trans hi.output, by rw [hheap]; exact hi.grow, fun b h1 h2 => (hb b).trans (hi.old b h1 h2), hi.imC, hi.imNew, fun b hb => by rw [hheap]; exact hi.imLt b hb,
  fun o b ho => by rw [hheap]; exact hi.sep o b ho, hi.inj, hi.dom, fun o ob ho => (hi.obj o ob ho).ev ev (fun b _ => hb b), fun g v hg => (hi.glob g v hg).ev ev, fun x => (hi.fr x).ev ev, hi.size, (by obtain ⟨rs, h1, h2⟩ := hi.defers; exact ⟨rs, h1, h2.of_heap hheap⟩), hi.pin⟩
section
variable {P : Program} {C : Ctx} {Q : AEx -> ASt -> Prop} {s s0 : ASt} {ops : Array Oper} {K : ASt -> Prop}
def Eff.key (e : Eff) : Eff := ⟨e.dst, .undef, e.rd, e.wr.map fun p => (p.1, .box .undef)⟩
theorem Kf (ops : Array Oper) (oi oj : Oper) (ei ej : Eff) : wU ops oi oj ei.key ej.key = wU ops oi oj ei ej := by
 grind [wU, Eff.key, List.all_map, List.any_map]
theorem ji (ops : Array Oper) (es : List Eff) (cl : List Nat) : dU ops (es.map Eff.key) cl = dU ops es cl := by
 unfold dU
 simp only [List.length_map, List.getElem?_map]
 congr 1
 congr 1
 funext j
 cases ops[j]? with
 | none => rfl
 | some o =>
  simp only
  congr 1
  congr 1
  funext i
  congr 1
  cases ops[i]? <;> cases es[i]? <;> cases es[j]? <;> simp [Kf]
def aiu (P : Program) (C : Ctx) (Q : AEx -> ASt -> Prop) (ops : Array Oper) (cl : List Nat) (i : Nat) (pre : List Eff) (s : ASt) (K : ASt -> Prop) : Prop :=
 ∃ es, lE P C ops i s es /\ ((dU ops (pre ++ es) cl = true /\ K (db s es)) \/
  (∃ om, ops[i + es.length]? = some om /\ (∀ j, i + es.length < j -> j < ops.size -> (cl.getD j 0).testBit (i + es.length) = true) /\ pre.length = i /\ (∀ j, j < i + es.length -> (cl.getD (i + es.length) 0).testBit j = true) /\
   dU ops (pre ++ es ++ Eff.bad om.dst :: ((ops.toList.drop (i + es.length + 1)).map (·.dst)).map Eff.bad2) cl = true /\ Xn P C ops (lft C Q) (i + es.length) (db s es)) \/
  ∃ om q rd uz, ops[i + es.length]? = some om /\ pre.length = i /\ jh P C ops cl (i + es.length) q (i + es.length + 1) (db s es) (zz om.dst) uz /\ dU ops (pre ++ es ++ uC q rd om.dst :: uz) cl = true /\
   ((∀ o ob, C.h0 o = some ob -> ∃ ct, (db s es).hp o = some ct) -> Xp P C ops (lft C Q) (i + es.length) om rd (db s es)))
def qg (P : Program) (C : Ctx) (Q : AEx -> ASt -> Prop) (ops : Array Oper) (cl : List Nat) (i : Nat) (ks : List Eff) (s : ASt) (K : ASt -> Prop) : Prop :=
 ∀ pre : List Eff, pre.map Eff.key = ks.reverse -> aiu P C Q ops cl i pre s K
theorem rK {cl : List Nat} {i : Nat} {ks : List Eff} {e : Eff} {s : ASt} {K : ASt -> Prop} (h : jg P C ops i s e) (hk : qg P C Q ops cl (i + 1) (e.key :: ks) (e.app s) K) : qg P C Q ops cl i ks s K := by
 intro pre hp
 obtain ⟨es, h1, h2⟩ := hk (pre ++ [e]) (by simp [hp])
 refine ⟨e :: es, ⟨h, h1⟩, ?_⟩
 have e1 : i + 1 + es.length = i + (e :: es).length := by simp only [List.length_cons]; omega
 rcases h2 with ⟨h2, h3⟩ | ⟨om, g1, g2, g3, g4, g5, g6⟩ | ⟨om, q, rd, uz, g1, g2, g3, g4, g5⟩
 ·exact .inl ⟨by simpa using h2, h3⟩
 ·rw [e1] at g1 g2 g4 g5 g6
  exact .inr (.inl ⟨om, g1, g2, by simpa using g3, g4, by simpa using g5, g6⟩)
 ·rw [e1] at g1 g3 g5
  exact .inr (.inr ⟨om, q, rd, uz, g1, by simpa using g2, g3, by simpa using g4, g5⟩)
theorem Hx {cl : List Nat} {i : Nat} {ks : List Eff} {s : ASt} {K : ASt -> Prop} (ls : List Eff) (hk : ks = ls) (hc : dU ops ls.reverse cl = true) (h : K s) : qg P C Q ops cl i ks s K :=
 fun pre hp => ⟨[], trivial, .inl ⟨by rw [List.append_nil, ← ji, hp, hk]; exact hc, h⟩⟩
theorem Hy {cl : List Nat} {i : Nat} {ks : List Eff} {s : ASt} {K : ASt -> Prop} {om : Oper} (hm : ops[i]? = some om) (hback : ∀ j, i < j -> j < ops.size -> (cl.getD j 0).testBit i = true) (hks : ks.length = i) (hfull : ∀ j, j < i -> (cl.getD i 0).testBit j = true)
  (hc : dU ops (ks.reverse ++ Eff.bad om.dst :: ((ops.toList.drop (i + 1)).map (·.dst)).map Eff.bad2) cl = true) (h : Xn P C ops (lft C Q) i s) : qg P C Q ops cl i ks s K := by
 intro pre hp
 refine ⟨[], trivial, .inr (.inl ⟨om, hm, hback, ?_, hfull, ?_, h⟩)⟩
 ·have := congrArg List.length hp
  grind
 ·rw [List.append_nil, ← ji]
  have e : ks.reverse.map Eff.key = ks.reverse := by
   rw [← hp, List.map_map]
   simp [List.map_congr_left, Function.comp, Eff.key]
  rw [← ji] at hc
  grind
theorem E5 (e : Eff) : e.key.key = e.key := by
 unfold Eff.key
 simp
theorem C9 {cl : List Nat} {i : Nat} {ks : List Eff} {s : ASt} {K : ASt -> Prop} {om : Oper} {q : Nat} {rd : List Nat} {uz : List Eff} (hm : ops[i]? = some om) (hks : ks.length = i) (hG : jh P C ops cl i q (i + 1) s (zz om.dst) uz)
  (hc : dU ops (ks.reverse ++ uC q rd om.dst :: uz.map Eff.key) cl = true) (h : (∀ o ob, C.h0 o = some ob -> ∃ ct, s.hp o = some ct) -> Xp P C ops (lft C Q) i om rd s) : qg P C Q ops cl i ks s K := by
 intro pre hp
 refine ⟨[], trivial, .inr (.inr ⟨om, q, rd, uz, hm, ?_, hG, ?_, h⟩)⟩
 ·have := congrArg List.length hp
  grind
 ·rw [List.append_nil, ← ji]
  have e : ks.reverse.map Eff.key = ks.reverse := by
   rw [← hp, List.map_map]
   simp [E5]
  have e2 : (uz.map Eff.key).map Eff.key = uz.map Eff.key := by
   rw [List.map_map]
   simp [E5]
  rw [← ji] at hc
  grind
theorem Hz {e : Eff} {s : ASt} {o : Nat} (h : ∃ ob, s.hp o = some ob) : ∃ ob, (e.app s).hp o = some ob := by
 show ∃ ob, aG s.hp e.wr o = some ob
 grind [aG]
theorem n4 {o : Nat} : ∀ (es : List Eff) (s : ASt), (∃ ob, s.hp o = some ob) -> ∃ ob, (db s es).hp o = some ob
 | [], _, h => h
 | _ :: es, _, h => n4 es _ (Hz h)
theorem qH {id : Nat} {s : ASt} (cl : List Nat) (hm : P.follows .mixedOrders = true) (hn : cz ops C.n = true) (hk : qg P C Q ops cl 0 [] s (fun s' => Q .normal s')) : AW P C (.region id ops true) Q s := by
 obtain ⟨es, h1, h⟩ := hk [] rfl
 intro a w hr
 refine wpIn_region_any hm ?_
 have fin : ∀ (EW : List Eff), dU ops EW cl = true -> zw P C ops cl (lft C Q) s EW -> (∀ a w, Rel C (db s EW) a w -> lft C Q .normal a w) -> ∀ w', Rel C s a w' -> wpAnyIn (fen C.rd) 0 P .any ops (lft C Q) ops.size (Array.replicate ops.size false) a w' := by
  intro EW hck kf hQ w' lj
  refine zx kf hck hQ ops.size _ a _ (by simp) ?_ ?_ ?_
  ·intro j o _ hl
   simp only [Array.getD_eq_getD_getElem?, Array.getElem?_replicate] at hl
   grind
  ·have : ∀ n, qG (fun j => (Array.replicate ops.size false).getD j false) n = n := by
    intro n
    induction n with
    | zero => rfl
    | succ n ih =>
     have : (Array.replicate ops.size false).getD n false = false := by
      simp only [Array.getD_eq_getD_getElem?, Array.getElem?_replicate]; split <;> rfl
     grind [qG]
   grind
  ·rw [eU _ _ _ _ (fun j _ => by simp only [Array.getD_eq_getD_getElem?, Array.getElem?_replicate]; split <;> rfl)]
   exact lj
 rcases h with ⟨h2, h3⟩ | ⟨om, g1, g2, _, g4, g5, g6⟩ | ⟨om, q, rd, uz, g1, _, g3, g4, g5⟩
 ·exact fin es (by simpa using h2) (zy h1 hn) (fun a w hr => ⟨.normal, _, rfl, h3, hr⟩) _ (hr.world rfl rfl rfl rfl)
 ·simp only [Nat.zero_add] at g1 g2 g4 g6
  refine fin _ (by simpa using g5) (Hv h1 hn g1 rfl g4 g2 g6) (fun a w hr => ?_) _ (hr.world rfl rfl rfl rfl)
  refine (Kd ?_ hr).elim
  rw [← lF _ s (fun _ => true) 0 (fun _ _ => rfl)]
  exact Ke rfl
 ·simp only [Nat.zero_add] at g1 g3 g5
  have hp : ∀ o ob, C.h0 o = some ob -> ∃ ct, (db s es).hp o = some ct := fun o ob ho => by
   obtain ⟨im, μ, hi⟩ := hr
   obtain ⟨ct, h1, _⟩ := hi.pin o ob ho
   simp_all [n4]
  refine fin _ (by simpa using g4) (C8 h1 hn g1 g3 (g5 hp)) (fun a w hr => ?_) _ (hr.world rfl rfl rfl rfl)
  refine (E3 (q := q) ?_ hr).elim
  rw [nf]
  exact C7 g3 _ E4
end
end Go.Vm
