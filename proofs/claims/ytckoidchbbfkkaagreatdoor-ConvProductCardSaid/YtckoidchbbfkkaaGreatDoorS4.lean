/- Part D of the abstract machine: a region that draws its order: one chain in the text's order serves every order, if 'checkD' says yes. -/
import Derived.Test.YtckoidchbbfkkaaGreatDoorS3
namespace Go.Vm

def cntU (L : Nat → Bool) : Nat → Nat
  | 0 => 0
  | n + 1 => cntU L n + bif L n then 0 else 1

theorem cntU_zero {L : Nat → Bool} : ∀ {n : Nat}, cntU L n = 0 → ∀ j, j < n → L j = true
  | n + 1, h, j, hj => by
    simp only [cntU] at h
    have hl : L n = true := by
      cases hl : L n with
      | true => rfl
      | false => rw [hl] at h; simp at h
    rw [hl] at h
    simp only [cond_true, Nat.add_zero] at h
    by_cases e : j = n
    · subst e; exact hl
    · exact cntU_zero (by omega) j (by omega)

theorem cntU_congr {L L' : Nat → Bool} : ∀ n, (∀ j, j < n → L' j = L j) → cntU L' n = cntU L n
  | 0, _ => rfl
  | n + 1, h => by simp only [cntU]; rw [cntU_congr n (fun j hj => h j (by omega)), h n (by omega)]

theorem cntU_set {L L' : Nat → Bool} {i : Nat} (hi : L i = false) (hi' : L' i = true) (h : ∀ j, j ≠ i → L' j = L j) : ∀ n, i < n → cntU L' n + 1 = cntU L n
  | n + 1, hn => by
    simp only [cntU]
    by_cases e : i = n
    · subst e
      rw [cntU_congr i (fun j hj => h j (by omega)), hi, hi']; simp
    · rw [h n (Ne.symm e)]
      have := cntU_set hi hi' h n (by omega)
      omega

theorem orOf_foldl (cl : List Nat) (i : Nat) : ∀ (l : List Edge) (acc : Nat),
    (l.foldl (fun acc e => if Region.binds .any e then acc ||| (2 ^ e.on ||| cl.getD e.on 0) else acc) acc).testBit i = true →
    acc.testBit i = true ∨ ∃ e ∈ l, Region.binds .any e = true ∧ (i = e.on ∨ (cl.getD e.on 0).testBit i = true)
  | [], acc, h => .inl h
  | e :: l, acc, h => by
    rcases orOf_foldl cl i l _ h with h | ⟨e', he', h'⟩
    · by_cases hb : Region.binds .any e = true
      · simp only [hb, if_true, Nat.testBit_or, Bool.or_eq_true] at h
        rcases h with h | h | h
        · exact .inl h
        · refine .inr ⟨e, by simp, hb, .inl ?_⟩
          rw [Nat.testBit_two_pow] at h
          exact (of_decide_eq_true h).symm
        · exact .inr ⟨e, by simp, hb, .inr h⟩
      · simp only [hb] at h
        exact .inl h
    · exact .inr ⟨e', by simp [he'], h'⟩

theorem orOf_spec {o : Oper} {cl : List Nat} {i : Nat} (h : (orOf o cl).testBit i = true) : ∃ e ∈ o.after.toList, Region.binds .any e = true ∧ (i = e.on ∨ (cl.getD e.on 0).testBit i = true) := by
  unfold orOf at h
  rw [← Array.foldl_toList] at h
  rcases orOf_foldl cl i _ _ h with h | h
  · simp at h
  · exact h

section
variable {P : Program} {C : Ctx} {ops : Array Oper}

structure ChkD (ops : Array Oper) (es : List Eff) (cl : List Nat) : Prop where
  len : es.length = ops.size
  clo : ∀ j o, ops[j]? = some o → ∀ i, (cl.getD j 0).testBit i = true → (orOf o cl).testBit i = true
  edge : ∀ j o, ops[j]? = some o → ∀ e ∈ o.after.toList, Region.binds .any e = true → e.on < j
  pair : ∀ i j oi oj ei ej, i < j → ops[i]? = some oi → ops[j]? = some oj → es[i]? = some ei → es[j]? = some ej → (cl.getD j 0).testBit i = true ∨ disj ops oi oj ei ej = true

theorem checkD_spec {es : List Eff} {cl : List Nat} (h : checkD ops es cl = true) : ChkD ops es cl := by
  unfold checkD at h
  simp only [Bool.and_eq_true, List.all_eq_true, List.mem_range] at h
  obtain ⟨⟨h1, _⟩, h2⟩ := h
  refine ⟨Nat.eq_of_beq_eq_true h1, ?_, ?_, ?_⟩
  · intro j o ho i hb
    have hj : j < ops.size := (Array.getElem?_eq_some_iff.1 ho).1
    have := h2 j hj
    simp only [ho, Bool.and_eq_true] at this
    have e := Nat.eq_of_beq_eq_true this.1.1
    rw [← e, Nat.testBit_or, hb]; rfl
  · intro j o ho e he hb
    have hj : j < ops.size := (Array.getElem?_eq_some_iff.1 ho).1
    have := h2 j hj
    simp only [ho, Bool.and_eq_true] at this
    have h3 := List.all_eq_true.1 this.1.2 e he
    simp only [hb, Bool.not_true, Bool.false_or] at h3
    exact Nat.le_of_ble_eq_true (by simpa [Nat.blt] using h3)
  · intro i j oi oj ei ej hij hoi hoj hei hej
    have hj : j < ops.size := (Array.getElem?_eq_some_iff.1 hoj).1
    have := h2 j hj
    simp only [hoj, Bool.and_eq_true, List.all_eq_true, List.mem_range] at this
    have h3 := this.2 i hij
    simp only [hoi, hei, hej, Bool.or_eq_true] at h3
    exact h3

def Down (ops : Array Oper) (L : Nat → Bool) : Prop := ∀ j o, ops[j]? = some o → L j = true → ∀ e ∈ o.after.toList, Region.binds .any e = true → L e.on = true

theorem down_closed {es : List Eff} {cl : List Nat} (hc : ChkD ops es cl) {L : Nat → Bool} (hd : Down ops L) :
    ∀ j o, ops[j]? = some o → L j = true → ∀ i, (cl.getD j 0).testBit i = true → L i = true := by
  intro j
  induction j using Nat.strongRecOn with
  | _ j ih =>
    intro o ho hl i hb
    obtain ⟨e, he, hbd, hi⟩ := orOf_spec (hc.clo j o ho i hb)
    have hlt := hc.edge j o ho e he hbd
    have hle := hd j o ho hl e he hbd
    rcases hi with rfl | hi
    · exact hle
    · have hj : j < ops.size := (Array.getElem?_eq_some_iff.1 ho).1
      exact ih e.on hlt _ (Array.getElem?_eq_getElem (by omega)) hle i hi

theorem beq_self_any {d : Nat} {l : List Nat} (h : d ∈ l) : l.any (Nat.beq d) = true := List.any_eq_true.2 ⟨d, h, Nat.beq_refl d⟩

theorem disj_spec {oi oj : Oper} {ei ej : Eff} (h : disj ops oi oj ei ej = true) :
    (∀ d, oi.dst = some d → d ∉ oj.looksAt ops) ∧ (∀ d, oi.dst = some d → oj.dst ≠ some d) ∧ (∀ d, oj.dst = some d → d ∉ oi.looksAt ops) ∧
    (∀ k, k ∈ ei.wr.map (·.1) → k ∉ ej.rd ∧ k ∉ ej.wr.map (·.1)) ∧ (∀ k, k ∈ ej.wr.map (·.1) → k ∉ ei.rd) := by
  unfold disj at h
  simp only [Bool.and_eq_true] at h
  obtain ⟨⟨⟨h1, h2⟩, h3⟩, h4⟩ := h
  refine ⟨?_, ?_, ?_, ?_, ?_⟩
  · intro d hd hm
    rw [hd] at h1
    simp only [Bool.and_eq_true, Bool.not_eq_true'] at h1
    rw [beq_self_any hm] at h1
    simp at h1
  · intro d hd hd'
    rw [hd] at h1
    simp [hd', Nat.beq_refl] at h1
  · intro d hd hm
    rw [hd] at h2
    simp only [Bool.not_eq_true'] at h2
    rw [beq_self_any hm] at h2
    simp at h2
  · intro k hk
    obtain ⟨p, hp, rfl⟩ := List.mem_map.1 hk
    have := List.all_eq_true.1 h3 p hp
    simp only [Bool.and_eq_true, Bool.not_eq_true'] at this
    refine ⟨fun hm => ?_, fun hm => ?_⟩
    · rw [beq_self_any hm] at this; simp at this
    · obtain ⟨q, hq, he⟩ := List.mem_map.1 hm
      have hany : (ej.wr.any fun q => Nat.beq p.1 q.1) = true := List.any_eq_true.2 ⟨q, hq, by rw [he]; exact Nat.beq_refl _⟩
      rw [hany] at this; simp at this
  · intro k hk hm
    obtain ⟨p, hp, rfl⟩ := List.mem_map.1 hk
    have := List.all_eq_true.1 h4 p hp
    simp only [Bool.not_eq_true'] at this
    rw [beq_self_any hm] at this; simp at this

theorem apps_last {x : Nat} {L : Nat → Bool} : ∀ (es : List Eff) (s : ASt) (i j : Nat) (e : Eff), es[j]? = some e → e.dst = some x → L (i + j) = true →
    (∀ j' e', j < j' → es[j']? = some e' → e'.dst = some x → L (i + j') = false) → (apps s es L i).fr x = e.val
  | e0 :: es, s, i, 0, e, he, hd, hl, hn => by
    simp only [List.getElem?_cons_zero, Option.some.injEq] at he
    subst he
    simp only [Nat.add_zero] at hl
    simp only [apps, hl, cond_true]
    have : (apps (e0.app s) es L (i + 1)).fr x = (apps (e0.app s) es (fun _ => false) (i + 1)).fr x :=
      apps_fr_congr es _ _ _ rfl (fun j e' he' hd' => by have := hn (j + 1) e' (by omega) (by simpa using he') hd'; rwa [show i + (j + 1) = i + 1 + j by omega] at this)
    rw [this, apps_none _ _ _ _ (fun _ _ => rfl)]
    exact Eff.app_fr_eq hd
  | e0 :: es, s, i, j + 1, e, he, hd, hl, hn => by
    simp only [apps]
    refine apps_last es _ (i + 1) j e (by simpa using he) hd (by rwa [show i + 1 + j = i + (j + 1) by omega]) (fun j' e' hj he' hd' => ?_)
    have := hn (j' + 1) e' (by omega) (by simpa using he') hd'
    rwa [show i + (j' + 1) = i + 1 + j' by omega] at this
  | [], _, _, _, _, he, _, _, _ => by simp at he

theorem apps_lastHp {k : Nat} {L : Nat → Bool} {hp0 : Hp} : ∀ (es : List Eff) (s : ASt) (i j : Nat) (e : Eff), es[j]? = some e → k ∈ e.wr.map (·.1) → L (i + j) = true →
    (∀ j' e', j < j' → es[j']? = some e' → k ∈ e'.wr.map (·.1) → L (i + j') = false) → (apps s es L i).hp k = hpSet hp0 e.wr k
  | e0 :: es, s, i, 0, e, he, hd, hl, hn => by
    simp only [List.getElem?_cons_zero, Option.some.injEq] at he
    subst he
    simp only [Nat.add_zero] at hl
    simp only [apps, hl, cond_true]
    have : (apps (e0.app s) es L (i + 1)).hp k = (apps (e0.app s) es (fun _ => false) (i + 1)).hp k :=
      apps_hp_congr es _ _ _ rfl (fun j e' he' hd' => by have := hn (j + 1) e' (by omega) (by simpa using he') hd'; rwa [show i + (j + 1) = i + 1 + j by omega] at this)
    rw [this, apps_none _ _ _ _ (fun _ _ => rfl)]
    exact hpSet_congr hd
  | e0 :: es, s, i, j + 1, e, he, hd, hl, hn => by
    simp only [apps]
    refine apps_lastHp es _ (i + 1) j e (by simpa using he) hd (by rwa [show i + 1 + j = i + (j + 1) by omega]) (fun j' e' hj he' hd' => ?_)
    have := hn (j' + 1) e' (by omega) (by simpa using he') hd'
    rwa [show i + (j' + 1) = i + 1 + j' by omega] at this
  | [], _, _, _, _, he, _, _, _ => by simp at he

/-- what each operation does, seen from what was done ahead of it -/
def StepQ (P : Program) (C : Ctx) (ops : Array Oper) (cl : List Nat) (Qr : Exit → Act → World → Prop) (s0 : ASt) (es : List Eff) : Prop :=
  ∀ (i : Nat) (o : Oper) (e : Eff), ops[i]? = some o → es[i]? = some e → e.dst = o.dst ∧
  ∀ s1 : ASt, (∀ x ∈ o.looksAt ops, s1.fr x = (apps s0 es (fun k => Nat.blt k i) 0).fr x) → (∀ k, (k ∈ e.rd ∨ k ∈ e.wr.map (·.1)) → s1.hp k = (apps s0 es (fun k => Nat.blt k i) 0).hp k) →
  ((∀ j, j < i → (cl.getD i 0).testBit j = true) → (∀ j, i < j → j < ops.size → (cl.getD j 0).testBit i = true) → s1 = apps s0 es (fun k => Nat.blt k i) 0) →
  ∀ a w, Rel C s1 a w → ∀ K : Act → World → Prop, (∀ a' w', Rel C (e.app s1) a' w' → K a' w') → wpOpIn (fen C.rd) 0 P ops Qr i K a w

theorem ASt.ext' {s t : ASt} (h1 : ∀ x, s.fr x = t.fr x) (h2 : ∀ k, s.hp k = t.hp k) : s = t := by
  have e1 := funext h1
  have e2 := funext h2
  cases s with
  | mk f1 p1 =>
    cases t with
    | mk f2 p2 => simp only at e1 e2; rw [e1, e2]

/-- ONE CHAIN SERVES EVERY ORDER. -/
theorem draw_soundG {s0 : ASt} {es : List Eff} {cl : List Nat} {Qr : Exit → Act → World → Prop} (hst : StepQ P C ops cl Qr s0 es) (hck : checkD ops es cl = true)
    (hQ : ∀ a w, Rel C (appAll s0 es) a w → Qr .normal a w) :
    ∀ (fuel : Nat) (listed : Array Bool) (a : Act) (w : World), listed.size = ops.size → Down ops (fun j => listed.getD j false) → cntU (fun j => listed.getD j false) ops.size ≤ fuel →
      Rel C (apps s0 es (fun j => listed.getD j false) 0) a w → wpAnyIn (fen C.rd) 0 P .any ops Qr fuel listed a w := by
  have hc := checkD_spec hck
  have hdst : ∀ (j : Nat) (o : Oper) (e : Eff), ops[j]? = some o → es[j]? = some e → e.dst = o.dst := fun j o e ho he => (hst j o e ho he).1
  have opAt : ∀ j : Nat, j < ops.size → ops[j]? = some ops[j]! := by
    intro j hj
    rw [getElem!_pos ops j hj]; exact Array.getElem?_eq_getElem hj
  have allListed : ∀ (listed : Array Bool) a w, listed.size = ops.size → (∀ j, j < ops.size → listed.getD j false = true) → Rel C (apps s0 es (fun j => listed.getD j false) 0) a w → Qr .normal a w := by
    intro listed a w _ hall hr
    rw [apps_all es s0 _ 0 (fun j hj => by rw [Nat.zero_add]; exact hall j (by rw [← hc.len]; exact hj))] at hr
    exact hQ a w hr
  have noReady : ∀ (listed : Array Bool), listed.size = ops.size → Region.ready .any ops listed = [] → ∀ j, j < ops.size → listed.getD j false = true := by
    intro listed hsz hr j
    induction j using Nat.strongRecOn with
    | _ j ih =>
      intro hj
      cases hl : listed.getD j false with
      | true => rfl
      | false =>
        exfalso
        have hmem : j ∈ Region.ready .any ops listed := by
          unfold Region.ready
          rw [List.mem_filter]
          refine ⟨List.mem_range.2 hj, ?_⟩
          have hj' : j < listed.size := by omega
          have h1 : listed.getD j true = false := by
            simp only [Array.getD_eq_getD_getElem?, Array.getElem?_eq_getElem hj', Option.getD_some] at hl ⊢; exact hl
          rw [h1, opAt j hj]
          simp only [Bool.not_false, Bool.true_and, Option.map_some, Option.getD_some]
          rw [Array.all_eq_true_iff_forall_mem]
          intro e he
          cases hb : Region.binds .any e with
          | false => rfl
          | true =>
            have hlt := hc.edge j _ (opAt j hj) e (Array.mem_toList_iff.2 he) hb
            simp only [Bool.not_true, Bool.false_or]
            exact ih e.on hlt (by omega)
        rw [hr] at hmem
        cases hmem
  intro fuel
  induction fuel with
  | zero =>
    intro listed a w hsz hd hcnt hr
    have hall := cntU_zero (Nat.le_zero.1 hcnt)
    refine ⟨?_, allListed listed a w hsz hall hr⟩
    unfold Region.ready
    rw [List.filter_eq_nil_iff]
    intro i hi
    have hi := List.mem_range.1 hi
    have h1 := hall i hi
    have hi' : i < listed.size := by omega
    have h2 : listed.getD i true = true := by
      simp only [Array.getD_eq_getD_getElem?, Array.getElem?_eq_getElem hi', Option.getD_some] at h1 ⊢; exact h1
    simp [h2]
  | succ fuel ih =>
    intro listed a w hsz hd hcnt hr
    refine ⟨fun hnil => allListed listed a w hsz (noReady listed hsz hnil) hr, ?_⟩
    intro i hi
    unfold Region.ready at hi
    rw [List.mem_filter] at hi
    obtain ⟨hi, hrd⟩ := hi
    have hi := List.mem_range.1 hi
    have hi' : i < listed.size := by omega
    have hoi := opAt i hi
    rw [hoi] at hrd
    simp only [Option.map_some, Option.getD_some, Bool.and_eq_true, Bool.not_eq_true'] at hrd
    obtain ⟨hnl, hpre⟩ := hrd
    have hLi : listed.getD i false = false := by
      simp only [Array.getD_eq_getD_getElem?, Array.getElem?_eq_getElem hi', Option.getD_some] at hnl ⊢; exact hnl
    have hpre' : ∀ e ∈ (ops[i]!).after.toList, Region.binds .any e = true → listed.getD e.on false = true := by
      intro e he hb
      have := Array.all_eq_true_iff_forall_mem.1 hpre e (Array.mem_toList_iff.1 he)
      simpa [hb] using this
    have hie : i < es.length := by rw [hc.len]; exact hi
    have hei : es[i]? = some es[i] := List.getElem?_eq_getElem hie
    obtain ⟨hde, hrun⟩ := hst i _ es[i] hoi hei
    have closed := down_closed hc hd
    -- what must be ahead of i is listed
    have preI : ∀ j, (cl.getD i 0).testBit j = true → listed.getD j false = true := by
      intro j hj
      obtain ⟨e, he, hb, hje⟩ := orOf_spec (hc.clo i _ hoi j hj)
      have hle := hpre' e he hb
      have hlt := hc.edge i _ hoi e he hb
      rcases hje with rfl | hje
      · exact hle
      · exact closed e.on _ (opAt e.on (by omega)) hle j hje
    -- what must be behind i is not listed
    have postI : ∀ j, i < j → j < ops.size → (cl.getD j 0).testBit i = true → listed.getD j false = false := by
      intro j _ hjs hb
      cases hl : listed.getD j false with
      | false => rfl
      | true =>
        have := closed j _ (opAt j hjs) hl i hb
        rw [hLi] at this; cases this
    have same : ∀ (j : Nat) (ej : Eff), es[j]? = some ej → (∀ d, ¬ (j < i ∧ disj ops (ops[j]!) (ops[i]!) ej es[i] = true ∧ d = true) → ¬ (i < j ∧ disj ops (ops[i]!) (ops[j]!) es[i] ej = true ∧ d = true) → d = true → listed.getD j false = Nat.blt j i) := by
      intro j ej hej d h1 h2 hdt
      have hjs : j < ops.size := by rw [← hc.len]; exact (List.getElem?_eq_some_iff.1 hej).1
      rcases Nat.lt_trichotomy j i with hlt | heq | hgt
      · have hbl : Nat.blt j i = true := Nat.ble_eq_true_of_le hlt
        rw [hbl]
        rcases hc.pair j i _ _ _ _ hlt (opAt j hjs) hoi hej hei with h | h
        · exact preI j h
        · exact (h1 ⟨hlt, h, hdt⟩).elim
      · subst heq
        rw [hLi]
        symm
        rw [← Bool.not_eq_true]; intro hb; have := Nat.le_of_ble_eq_true hb; omega
      · have hbl : Nat.blt j i = false := by rw [← Bool.not_eq_true]; intro hb; have := Nat.le_of_ble_eq_true hb; omega
        rw [hbl]
        rcases hc.pair i j _ _ _ _ hgt hoi (opAt j hjs) hei hej with h | h
        · exact postI j hgt hjs h
        · exact (h2 ⟨hgt, h, hdt⟩).elim
    refine hrun (apps s0 es (fun j => listed.getD j false) 0) ?_ ?_ ?_ a w hr _ ?_
    · intro x hx
      refine apps_fr_congr es s0 s0 0 rfl (fun j ej hej hdj => ?_)
      have hjs : j < ops.size := by rw [← hc.len]; exact (List.getElem?_eq_some_iff.1 hej).1
      have hdj' : (ops[j]!).dst = some x := by rw [← hdst j _ _ (opAt j hjs) hej]; exact hdj
      rw [Nat.zero_add]
      refine same j ej hej true (fun ⟨_, hdis, _⟩ => ?_) (fun ⟨_, hdis, _⟩ => ?_) rfl
      · exact (disj_spec hdis).1 x hdj' hx
      · exact (disj_spec hdis).2.2.1 x hdj' hx
    · intro k hk
      refine apps_hp_congr es s0 s0 0 rfl (fun j ej hej hkj => ?_)
      rw [Nat.zero_add]
      refine same j ej hej true (fun ⟨_, hdis, _⟩ => ?_) (fun ⟨_, hdis, _⟩ => ?_) rfl
      · have := (disj_spec hdis).2.2.2.1 k hkj
        rcases hk with hk | hk
        · exact this.1 hk
        · exact this.2 hk
      · rcases hk with hk | hk
        · exact (disj_spec hdis).2.2.2.2 k hkj hk
        · exact ((disj_spec hdis).2.2.2.1 k hk).2 hkj
    · intro hb hbs
      have e1 : ∀ (j : Nat) (ej : Eff), es[j]? = some ej → listed.getD j false = Nat.blt j i := by
        intro j ej hej
        have hj : j < ops.size := by rw [← hc.len]; exact (List.getElem?_eq_some_iff.1 hej).1
        rcases Nat.lt_or_ge j i with h | h
        · rw [show Nat.blt j i = true from Nat.ble_eq_true_of_le h]
          exact preI j (hb j h)
        · have hbl : Nat.blt j i = false := by rw [← Bool.not_eq_true]; intro hb; have := Nat.le_of_ble_eq_true hb; omega
          rw [hbl]
          rcases Nat.eq_or_lt_of_le h with rfl | h
          · exact hLi
          · exact postI j h hj (hbs j h hj)
      refine ASt.ext' (fun x => ?_) (fun k => ?_)
      · exact apps_fr_congr es s0 s0 0 rfl (fun j ej hej _ => by rw [Nat.zero_add]; exact e1 j ej hej)
      · exact apps_hp_congr es s0 s0 0 rfl (fun j ej hej _ => by rw [Nat.zero_add]; exact e1 j ej hej)
    · intro a' w' hr'
      have hL' : ∀ j, (listed.setIfInBounds i true).getD j false = bif Nat.beq j i then true else listed.getD j false := by
        intro j
        by_cases hji : j = i
        · subst hji
          simp [Array.getD_eq_getD_getElem?, hi']
        · have hb : Nat.beq j i = false := by rw [← Bool.not_eq_true]; intro hb; exact hji (Nat.eq_of_beq_eq_true hb)
          simp [hb, Array.getD_eq_getD_getElem?, Array.getElem?_setIfInBounds_ne (Ne.symm hji)]
      have hL'i : (listed.setIfInBounds i true).getD i false = true := by rw [hL' i, Nat.beq_refl]; rfl
      have hL'n : ∀ j, j ≠ i → (listed.setIfInBounds i true).getD j false = listed.getD j false := by
        intro j hji
        have hb : Nat.beq j i = false := by rw [← Bool.not_eq_true]; intro hb; exact hji (Nat.eq_of_beq_eq_true hb)
        rw [hL' j, hb]; rfl
      refine ih (listed.setIfInBounds i true) a' w' (by simpa using hsz) ?_ ?_ ?_
      · intro j o ho hlj e he hb
        show (listed.setIfInBounds i true).getD e.on false = true
        by_cases hji : j = i
        · subst hji
          obtain rfl : o = ops[j]! := Option.some.inj (ho.symm.trans hoi)
          have hlt := hc.edge j _ ho e he hb
          rw [hL'n e.on (by omega)]
          exact hpre' e he hb
        · have hlj' : listed.getD j false = true := by rw [← hL'n j hji]; exact hlj
          have := hd j o ho hlj' e he hb
          by_cases hei' : e.on = i
          · rw [hei']; exact hL'i
          · rw [hL'n _ hei']; exact this
      · have := cntU_set (L := fun j => listed.getD j false) (L' := fun j => (listed.setIfInBounds i true).getD j false) hLi hL'i hL'n ops.size hi
        omega
      · have heq : (es[i]).app (apps s0 es (fun j => listed.getD j false) 0) = apps s0 es (fun j => (listed.setIfInBounds i true).getD j false) 0 := by
          have hfr : ∀ x, ((es[i]).app (apps s0 es (fun j => listed.getD j false) 0)).fr x = (apps s0 es (fun j => (listed.setIfInBounds i true).getD j false) 0).fr x := by
            intro x
            by_cases hx : (es[i]).dst = some x
            · rw [Eff.app_fr_eq hx]
              symm
              refine apps_last es s0 0 i es[i] hei hx (by rw [Nat.zero_add]; exact hL'i) (fun j ej hij hej hdj => ?_)
              have hjs : j < ops.size := by rw [← hc.len]; exact (List.getElem?_eq_some_iff.1 hej).1
              rw [Nat.zero_add]
              show (listed.setIfInBounds i true).getD j false = false
              rw [hL'n j (by omega)]
              rcases hc.pair i j _ _ _ _ hij hoi (opAt j hjs) hei hej with h | h
              · exact postI j hij hjs h
              · have hx' : (ops[i]!).dst = some x := by rw [← hde]; exact hx
                have hdj' : (ops[j]!).dst = some x := by rw [← hdst j _ _ (opAt j hjs) hej]; exact hdj
                exact ((disj_spec h).2.1 x hx' hdj').elim
            · rw [Eff.app_fr_ne hx]
              refine apps_fr_congr es s0 s0 0 rfl (fun j ej hej hdj => ?_)
              rw [Nat.zero_add]
              have hji : j ≠ i := by
                rintro rfl
                rw [hei] at hej
                obtain rfl := Option.some.inj hej
                exact hx hdj
              exact (hL'n j hji).symm
          have hhp : ∀ k, ((es[i]).app (apps s0 es (fun j => listed.getD j false) 0)).hp k = (apps s0 es (fun j => (listed.setIfInBounds i true).getD j false) 0).hp k := by
            intro k
            by_cases hk : k ∈ (es[i]).wr.map (·.1)
            · symm
              refine apps_lastHp (hp0 := (apps s0 es (fun j => listed.getD j false) 0).hp) es s0 0 i es[i] hei hk (by rw [Nat.zero_add]; exact hL'i) (fun j ej hij hej hdj => ?_)
              have hjs : j < ops.size := by rw [← hc.len]; exact (List.getElem?_eq_some_iff.1 hej).1
              rw [Nat.zero_add]
              show (listed.setIfInBounds i true).getD j false = false
              rw [hL'n j (by omega)]
              rcases hc.pair i j _ _ _ _ hij hoi (opAt j hjs) hei hej with h | h
              · exact postI j hij hjs h
              · exact (((disj_spec h).2.2.2.1 k hk).2 hdj).elim
            · show hpSet _ _ k = _
              rw [hpSet_ne hk]
              refine apps_hp_congr es s0 s0 0 rfl (fun j ej hej hdj => ?_)
              rw [Nat.zero_add]
              have hji : j ≠ i := by
                rintro rfl
                rw [hei] at hej
                obtain rfl := Option.some.inj hej
                exact hk hdj
              exact (hL'n j hji).symm
          have e1 := funext hfr
          have e2 := funext hhp
          cases h1 : (es[i]).app (apps s0 es (fun j => listed.getD j false) 0) with
          | mk f1 p1 =>
            cases h2 : apps s0 es (fun j => (listed.setIfInBounds i true).getD j false) 0 with
            | mk f2 p2 => rw [h1, h2] at e1 e2; simp only at e1 e2; rw [e1, e2]
        rw [← heq]; exact hr'

theorem stepQ_chain {s0 : ASt} {es : List Eff} {cl : List Nat} {Qr : Exit → Act → World → Prop} (hch : Chain P C ops 0 s0 es) (hn : dstsBelow ops C.n = true) : StepQ P C ops cl Qr s0 es := by
  intro i o e ho he
  have h := Chain.get es s0 0 i e hch he
  rw [Nat.zero_add] at h
  obtain ⟨h1, h2⟩ := h o ho (dstsBelow_spec hn ho)
  exact ⟨h1, fun s1 ha hb _ a w hr K hK => h2 s1 ha hb a w hr K _ hK⟩

/-! ### the last operation panics -/

/-- an effect that nothing has -/
def Eff.bad (d : Option Nat) : Eff := ⟨d, .undef, [], [(0, .box .undef)]⟩
/-- operation m, in this state, ends as Q says, whatever would follow -/
def PanS (P : Program) (C : Ctx) (ops : Array Oper) (Qr : Exit → Act → World → Prop) (m : Nat) (s : ASt) : Prop := ∀ a w, Rel C s a w → ∀ K : Act → World → Prop, wpOpIn (fen C.rd) 0 P ops Qr m K a w

/-- an effect behind one that nothing has -/
def Eff.bad2 (d : Option Nat) : Eff := ⟨d, .undef, [0], []⟩
theorem bad_hp {s : ASt} {a : Act} {w : World} (he : s.hp 0 = some (.box .undef)) (h : Rel C s a w) : False := by
  obtain ⟨im, μ, hi⟩ := h
  have := hi.obj 0 (.box .undef) he
  obtain ⟨b, cells, T, _, _, h⟩ := this
  simp only [RepA] at h
theorem apps_app : ∀ (es fs : List Eff) (s : ASt) (L : Nat → Bool) (i : Nat), apps s (es ++ fs) L i = apps (apps s es L i) fs L (i + es.length)
  | [], _, _, _, _ => rfl
  | e :: es, fs, s, L, i => by
    simp only [List.cons_append, apps]
    rw [apps_app es fs _ L (i + 1), List.length_cons, show i + 1 + es.length = i + (es.length + 1) by omega]
theorem apps_bad2 : ∀ (ds : List (Option Nat)) (s : ASt) (L : Nat → Bool) (i : Nat), (apps s (ds.map Eff.bad2) L i).hp 0 = s.hp 0
  | [], _, _, _ => rfl
  | d :: ds, s, L, i => by
    simp only [List.map_cons, apps]
    rw [apps_bad2 ds _ L (i + 1)]
    cases L i <;> rfl
/-- behind the one that nothing has -/
theorem bad_at {es : List Eff} {d : Option Nat} {ds : List (Option Nat)} {s : ASt} {L : Nat → Bool} (hL : L es.length = true) : (apps s (es ++ Eff.bad d :: ds.map Eff.bad2) L 0).hp 0 = some (.box .undef) := by
  rw [apps_app, Nat.zero_add]
  simp only [apps, hL, cond_true]
  rw [apps_bad2]
  rfl
theorem stepQ_pan {s0 : ASt} {es : List Eff} {cl : List Nat} {Qr : Exit → Act → World → Prop} {om : Oper} {tl : List Oper} (hch : Chain P C ops 0 s0 es) (hn : dstsBelow ops C.n = true) (hm : ops[es.length]? = some om) (htl : ops.toList.drop (es.length + 1) = tl)
    (hfull : ∀ j, j < es.length → (cl.getD es.length 0).testBit j = true) (hback : ∀ j, es.length < j → j < ops.size → (cl.getD j 0).testBit es.length = true) (hP : PanS P C ops Qr es.length (appAll s0 es)) : StepQ P C ops cl Qr s0 (es ++ Eff.bad om.dst :: (tl.map (·.dst)).map Eff.bad2) := by
  have nb : ∀ i j : Nat, i ≤ j → Nat.blt j i = false := fun i j h => by rw [← Bool.not_eq_true]; intro hb; have := Nat.le_of_ble_eq_true hb; omega
  have cut : ∀ (i : Nat), i ≤ es.length → apps s0 (es ++ Eff.bad om.dst :: (tl.map (·.dst)).map Eff.bad2) (fun k => Nat.blt k i) 0 = apps s0 es (fun k => Nat.blt k i) 0 := by
    intro i hi
    rw [apps_app]
    exact apps_none _ _ _ _ (fun j _ => nb i _ (by omega))
  intro i o e ho he
  rcases Nat.lt_trichotomy i es.length with h | h | h
  · rw [List.getElem?_append_left h] at he
    have h0 := Chain.get es s0 0 i e hch he
    rw [Nat.zero_add] at h0
    obtain ⟨h1, h2⟩ := h0 o ho (dstsBelow_spec hn ho)
    refine ⟨h1, fun s1 ha hb _ a w hr K hK => ?_⟩
    rw [cut i (by omega)] at ha hb
    exact h2 s1 ha hb a w hr K _ hK
  · subst h
    obtain rfl : o = om := Option.some.inj (ho.symm.trans hm)
    rw [List.getElem?_append_right (Nat.le_refl _), Nat.sub_self, List.getElem?_cons_zero] at he
    obtain rfl : Eff.bad o.dst = e := Option.some.inj he
    have e1 : apps s0 (es ++ Eff.bad o.dst :: (tl.map (·.dst)).map Eff.bad2) (fun k => Nat.blt k es.length) 0 = appAll s0 es :=
      (cut es.length (Nat.le_refl _)).trans (apps_all es s0 _ 0 (fun j hj => by rw [Nat.zero_add]; exact Nat.ble_eq_true_of_le hj))
    refine ⟨rfl, fun s1 _ _ hs a w hr K _ => ?_⟩
    rw [hs hfull hback, e1] at hr
    exact hP a w hr K
  · rw [List.getElem?_append_right (by omega), show i - es.length = (i - es.length - 1) + 1 by omega, List.getElem?_cons_succ, List.getElem?_map, List.getElem?_map] at he
    have ho' : tl[i - es.length - 1]? = some o := by
      rw [← htl, List.getElem?_drop, show es.length + 1 + (i - es.length - 1) = i by omega]
      simpa using ho
    rw [ho'] at he
    obtain rfl : Eff.bad2 o.dst = e := Option.some.inj he
    refine ⟨rfl, fun s1 _ hb _ a w hr _ _ => ?_⟩
    have := hb 0 (.inl (by simp [Eff.bad2]))
    rw [bad_at (es := es) (d := om.dst) (ds := tl.map (·.dst)) (s := s0) (L := fun k => Nat.blt k i) (Nat.ble_eq_true_of_le h)] at this
    exact (bad_hp this hr).elim

end

theorem Rel.world {C : Ctx} {s : ASt} {a : Act} {w w' : World} (h : Rel C s a w) (hheap : w'.heap = w.heap) (hos : w'.os = w.os) (htape : w'.tape = w.tape) (hout : w'.output = w.output) : Rel C s a w' := by
  obtain ⟨im, μ, hi⟩ := h
  have hb : ∀ b : Nat, w'.heap[b]? = w.heap[b]? := fun b => by rw [hheap]
  have ev : Ev w im μ s.hp w' im μ s.hp := ⟨fun _ h => h, fun b _ => hb b, fun o ob ho => ⟨ob, ho, ObEv.refl _ _⟩⟩
  exact ⟨im, μ, hos.trans hi.os, htape.trans hi.tape, hout.trans hi.output, by rw [hheap]; exact hi.grow, fun b h1 h2 => (hb b).trans (hi.old b h1 h2), hi.imC, hi.imNew, fun b hb => by rw [hheap]; exact hi.imLt b hb,
    fun o b ho => by rw [hheap]; exact hi.sep o b ho, hi.inj, hi.dom, fun o ob ho => (hi.obj o ob ho).ev ev (fun b _ => hb b), fun g v hg => (hi.glob g v hg).ev ev, fun x => (hi.fr x).ev ev, hi.size, (by obtain ⟨rs, h1, h2⟩ := hi.defers; exact ⟨rs, h1, h2.of_heap hheap⟩), hi.pin⟩

section
variable {P : Program} {C : Ctx} {Q : AEx → ASt → Prop} {s s0 : ASt} {ops : Array Oper} {K : ASt → Prop}

/-- what 'checkD' looks at -/
def Eff.key (e : Eff) : Eff := ⟨e.dst, .undef, e.rd, e.wr.map fun p => (p.1, .box .undef)⟩
theorem disj_key (ops : Array Oper) (oi oj : Oper) (ei ej : Eff) : disj ops oi oj ei.key ej.key = disj ops oi oj ei ej := by
  unfold disj Eff.key
  simp only [List.all_map, List.any_map]
  rfl
theorem checkD_key (ops : Array Oper) (es : List Eff) (cl : List Nat) : checkD ops (es.map Eff.key) cl = checkD ops es cl := by
  unfold checkD
  simp only [List.length_map, List.getElem?_map]
  congr 1
  congr 1
  funext j
  cases ops[j]? with
  | none => rfl
  | some o =>
    simp only
    congr 1
    congr 1
    funext i
    congr 1
    cases ops[i]? <;> cases es[i]? <;> cases es[j]? <;> simp [disj_key]
/-- a region that draws, whose last operation may panic -/
def RunP (P : Program) (C : Ctx) (Q : AEx → ASt → Prop) (ops : Array Oper) (cl : List Nat) (i : Nat) (pre : List Eff) (s : ASt) (K : ASt → Prop) : Prop :=
  ∃ es, Chain P C ops i s es ∧ ((checkD ops (pre ++ es) cl = true ∧ K (appAll s es)) ∨
    ∃ om, ops[i + es.length]? = some om ∧ (∀ j, i + es.length < j → j < ops.size → (cl.getD j 0).testBit (i + es.length) = true) ∧ pre.length = i ∧ (∀ j, j < i + es.length → (cl.getD (i + es.length) 0).testBit j = true) ∧
      checkD ops (pre ++ es ++ Eff.bad om.dst :: ((ops.toList.drop (i + es.length + 1)).map (·.dst)).map Eff.bad2) cl = true ∧ PanS P C ops (lft C Q) (i + es.length) (appAll s es))

def RunKP (P : Program) (C : Ctx) (Q : AEx → ASt → Prop) (ops : Array Oper) (cl : List Nat) (i : Nat) (ks : List Eff) (s : ASt) (K : ASt → Prop) : Prop :=
  ∀ pre : List Eff, pre.map Eff.key = ks.reverse → RunP P C Q ops cl i pre s K
theorem runKP_step {cl : List Nat} {i : Nat} {ks : List Eff} {e : Eff} {s : ASt} {K : ASt → Prop} (h : StepOK P C ops i s e) (hk : RunKP P C Q ops cl (i + 1) (e.key :: ks) (e.app s) K) : RunKP P C Q ops cl i ks s K := by
  intro pre hp
  obtain ⟨es, h1, h2⟩ := hk (pre ++ [e]) (by simp [hp])
  refine ⟨e :: es, ⟨h, h1⟩, ?_⟩
  rcases h2 with ⟨h2, h3⟩ | ⟨om, g1, g2, g3, g4, g5, g6⟩
  · exact .inl ⟨by simpa using h2, h3⟩
  · have e1 : i + 1 + es.length = i + (e :: es).length := by simp only [List.length_cons]; omega
    rw [e1] at g1 g2 g4 g5 g6
    exact .inr ⟨om, g1, g2, by simpa using g3, g4, by simpa using g5, g6⟩
theorem runKP_end {cl : List Nat} {i : Nat} {ks : List Eff} {s : ASt} {K : ASt → Prop} (ls : List Eff) (hk : ks = ls) (hc : checkD ops ls.reverse cl = true) (h : K s) : RunKP P C Q ops cl i ks s K :=
  fun pre hp => ⟨[], trivial, .inl ⟨by rw [List.append_nil, ← checkD_key, hp, hk]; exact hc, h⟩⟩
theorem runKP_pan {cl : List Nat} {i : Nat} {ks : List Eff} {s : ASt} {K : ASt → Prop} {om : Oper} (hm : ops[i]? = some om) (hback : ∀ j, i < j → j < ops.size → (cl.getD j 0).testBit i = true) (hks : ks.length = i) (hfull : ∀ j, j < i → (cl.getD i 0).testBit j = true)
    (hc : checkD ops (ks.reverse ++ Eff.bad om.dst :: ((ops.toList.drop (i + 1)).map (·.dst)).map Eff.bad2) cl = true) (h : PanS P C ops (lft C Q) i s) : RunKP P C Q ops cl i ks s K := by
  intro pre hp
  refine ⟨[], trivial, .inr ⟨om, hm, hback, ?_, hfull, ?_, h⟩⟩
  · have := congrArg List.length hp
    simpa [hks] using this
  · rw [List.append_nil, ← checkD_key]
    have e : ks.reverse.map Eff.key = ks.reverse := by
      rw [← hp, List.map_map]
      exact List.map_congr_left fun e _ => by simp [Function.comp, Eff.key]
    rw [← checkD_key] at hc
    rw [List.map_append, e, ← hp] at hc
    rw [List.map_append]
    exact hc

theorem aw_region_drawP {id : Nat} {s : ASt} (cl : List Nat) (hm : P.follows .mixedOrders = true) (hn : dstsBelow ops C.n = true) (hk : RunKP P C Q ops cl 0 [] s (fun s' => Q .normal s')) : AW P C (.region id ops true) Q s := by
  obtain ⟨es, h1, h⟩ := hk [] rfl
  intro a w hr
  refine wpIn_region_any hm ?_
  have fin : ∀ (es' : List Eff), checkD ops es' cl = true → StepQ P C ops cl (lft C Q) s es' → (∀ a w, Rel C (appAll s es') a w → lft C Q .normal a w) → ∀ w', Rel C s a w' → wpAnyIn (fen C.rd) 0 P .any ops (lft C Q) ops.size (Array.replicate ops.size false) a w' := by
    intro es' hck hst hQ w' hr'
    refine draw_soundG hst hck hQ ops.size _ a _ (by simp) ?_ ?_ ?_
    · intro j o _ hl
      simp only [Array.getD_eq_getD_getElem?, Array.getElem?_replicate] at hl
      split at hl <;> simp at hl
    · have : ∀ n, cntU (fun j => (Array.replicate ops.size false).getD j false) n = n := by
        intro n
        induction n with
        | zero => rfl
        | succ n ih =>
          have : (Array.replicate ops.size false).getD n false = false := by
            simp only [Array.getD_eq_getD_getElem?, Array.getElem?_replicate]; split <;> rfl
          simp only [cntU, ih, this, cond_false]
      rw [this]; exact Nat.le_refl _
    · rw [apps_none _ _ _ _ (fun j _ => by simp only [Array.getD_eq_getD_getElem?, Array.getElem?_replicate]; split <;> rfl)]
      exact hr'
  rcases h with ⟨h2, h3⟩ | ⟨om, g1, g2, _, g4, g5, g6⟩
  · exact fin es (by simpa using h2) (stepQ_chain h1 hn) (fun a w hr => ⟨.normal, _, rfl, h3, hr⟩) _ (hr.world rfl rfl rfl rfl)
  · simp only [Nat.zero_add] at g1 g2 g4 g6
    refine fin _ (by simpa using g5) (stepQ_pan h1 hn g1 rfl g4 g2 g6) (fun a w hr => ?_) _ (hr.world rfl rfl rfl rfl)
    refine (bad_hp ?_ hr).elim
    rw [← apps_all _ s (fun _ => true) 0 (fun _ _ => rfl)]
    exact bad_at rfl

end
end Go.Vm
