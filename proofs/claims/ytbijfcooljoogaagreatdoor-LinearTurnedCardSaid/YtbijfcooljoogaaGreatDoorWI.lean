/- Part WI of the abstract machine: an answer for data serves arrays that have been made: they are fixed, and stand beside the call. -/
import Derived.Test.YtbijfcooljoogaaGreatDoorWH
namespace Go.Vm

def allArr : LHp → Bool
  | [] => true
  | (_, .arr _ _ _ _ _) :: r => allArr r
  | _ :: _ => false
def fzHp : LHp → LHp
  | [] => []
  | (o, .arr T e m _ xs) :: r => (o, .arr T e m true xs) :: fzHp r
  | p :: r => p :: fzHp r
def AV.tyOf (hp : LHp) : AV → Option Ty
  | .d t _ => some t
  | .os o _ => (match hget hp o with | some (.arr _ e _ _ _) => some (.slice e) | _ => none)
  | .pr a b => (match a.tyOf hp, b.tyOf hp with | some x, some y => some (.pair x y) | _, _ => none)
  | _ => none
def datA (hp : LHp) (a : AV) : Option AV := match a.tyOf hp with | some t => (match toD hp a t with | some x => some (.d t x) | none => none) | none => none
def datL (hp : LHp) : List AV → Option (List AV)
  | [] => some []
  | a :: l => (match datA hp a, datL hp l with | some b, some r => some (b :: r) | _, _ => none)
def shA (N : Nat) : AV → Option AV
  | .d t x => some (.d t x)
  | .os i n => some (.os (i + N) n)
  | _ => none
def shH (N : Nat) : LHp → LHp
  | [] => []
  | (i, ob) :: r => (i + N, ob) :: shH N r
def shE (N : Nat) : AEnd → Option AEnd
  | .ret [a] => (match shA N a with | some b => some (.ret [b]) | none => none)
  | .panic t n => some (.panic t n)
  | _ => none
def endFz {R : Type} (hs : LHp) (k : AEnd → LHp → Option R) (hs' : LHp) (ae : AEnd) : Option R :=
  bif allArr hs' then (match shE hs.length ae with | some b => k b (fzHp hs ++ shH hs.length hs') | none => none) else none
def dataR {R : Type} (g : FnE) (args : List AV) (hs : LHp) (k : AEnd → LHp → Option R) : Option R :=
  bif allArr hs && below hs.length hs then (match datL (fzHp hs) args with | some args' => g.run args' [] (fun ae hs' => endFz hs k hs' ae) | none => none) else none
/-- an answer for data, served to arrays -/
def dataE (g : FnE) : FnE := { run := fun args hs k => dataR g args hs k }

theorem allArr_get : ∀ {hp : LHp} {o : Nat} {ob : AObj}, allArr hp = true → hget hp o = some ob → ∃ T e m z xs, ob = .arr T e m z xs
  | (a, .arr T e m z xs) :: r, o, ob, h, hg => by
    simp only [hget] at hg
    cases hb : Nat.beq a o with
    | true => rw [hb] at hg; cases hg; exact ⟨T, e, m, z, xs, rfl⟩
    | false => rw [hb] at hg; exact allArr_get (hp := r) h hg
  | (_, .box _) :: _, _, _, h, _ => by cases h
  | (_, .rc _) :: _, _, _, h, _ => by cases h
theorem fzHp_get : ∀ {hp : LHp}, allArr hp = true → ∀ (o : Nat), hget (fzHp hp) o = (match hget hp o with | some (.arr T e m _ xs) => some (.arr T e m true xs) | _ => none)
  | [], _, _ => rfl
  | (a, .arr T e m z xs) :: r, h, o => by
    simp only [fzHp, hget]
    cases hb : Nat.beq a o with
    | true => rfl
    | false => exact fzHp_get (hp := r) h o
  | (_, .box _) :: _, h, _ => by cases h
  | (_, .rc _) :: _, h, _ => by cases h
theorem shH_get (N : Nat) : ∀ (hp : LHp) (o : Nat), hget (shH N hp) (o + N) = hget hp o
  | [], _ => rfl
  | (a, ob) :: r, o => by
    simp only [shH, hget]
    have e : Nat.beq (a + N) (o + N) = Nat.beq a o := by
      cases h : Nat.beq a o with
      | true => rw [Nat.eq_of_beq_eq_true h]; exact Nat.beq_refl _
      | false =>
        rw [← Bool.not_eq_true]
        intro hc
        have := Nat.eq_of_beq_eq_true hc
        have h2 : a = o := by omega
        rw [h2, Nat.beq_refl] at h
        cases h
    rw [e, shH_get N r o]
theorem shH_low (N : Nat) : ∀ (hp : LHp) (o : Nat), o < N → hget (shH N hp) o = none
  | [], _, _ => rfl
  | (a, ob) :: r, o, h => by
    simp only [shH, hget]
    have e : Nat.beq (a + N) o = false := by
      rw [← Bool.not_eq_true]
      intro hc
      have := Nat.eq_of_beq_eq_true hc
      omega
    rw [e]
    exact shH_low N r o h
theorem datA_some {hp : LHp} {a b : AV} (h : datA hp a = some b) : ∃ t x, b = .d t x ∧ CoeF (hget hp) a t x := by
  unfold datA at h
  split at h
  · rename_i t ht
    split at h
    · rename_i x hx
      cases h
      exact ⟨t, x, rfl, toD_some hx⟩
    · cases h
  · cases h
def noMu : Mu := fun _ => .none
def noHp : Hp := fun _ => none
theorem datL_rep {w : World} {im : Nat → Prop} {μ : Mu} {hp : LHp} (hob : ∀ k ob, hget hp k = some ob → RepO w im μ (hget hp) (μ k) ob) : ∀ {l l' : List AV} {vs : List Value}, datL hp l = some l' → RepFs w im μ (hget hp) l vs → RepFs w im noMu noHp l' vs
  | [], l', vs, h, hr => by cases h; exact hr
  | a :: l, l', vs, h, hr => by
    simp only [datL] at h
    split at h
    · rename_i b r hb hl
      cases h
      simp only [RepFs] at hr ⊢
      obtain ⟨v, us, e, h1, h2, h3⟩ := hr
      obtain ⟨t, x, rfl, hc⟩ := datA_some hb
      refine ⟨v, us, e, ?_, ?_, datL_rep hob hl h3⟩
      · simp only [RepA]
        exact hc.sound hob _ h1
      · rw [h2]
        exact hc.agg
    · cases h
def fzPl : Pl → Pl
  | .row b cap => .fz b cap
  | p => p

theorem dataE_ok {P : Program} {Γ : Nat → Option AV} {f : FuncId} {g : FnE} (hg : FnE.OK P Γ f g) : FnE.OK P Γ f (dataE g) := by
  refine ⟨fun args hs k => ?_, fun args hs ae2 hs2 h => ?_⟩
  · simp only [dataE, dataR]
    cases allArr hs && below hs.length hs with
    | false => rfl
    | true =>
      simp only [cond_true]
      cases datL (fzHp hs) args with
      | none => rfl
      | some args' =>
        simp only
        rw [hg.eq]
        conv => rhs; rw [hg.eq]
        cases g.run args' [] (fun a h => some (a, h)) with
        | none => rfl
        | some p =>
          obtain ⟨ae, hs'⟩ := p
          simp only [Option.bind_some, endFz]
          cases allArr hs' with
          | false => rfl
          | true =>
            simp only [cond_true]
            split <;> rfl
  · simp only [dataE, dataR] at h
    cases hc : allArr hs && below hs.length hs with
    | false => rw [hc] at h; cases h
    | true =>
      rw [hc] at h
      simp only [Bool.and_eq_true] at hc
      obtain ⟨hA, hB⟩ := hc
      simp only [cond_true] at h
      split at h
      · rename_i args' hargs
        obtain ⟨ae, hs', hrun, h⟩ := hg.nat _ _ _ _ h
        have hF := hg.ok _ _ _ _ hrun
        clear hrun
        simp only [endFz] at h
        cases hA' : allArr hs' with
        | false => rw [hA'] at h; cases h
        | true =>
            rw [hA'] at h
            simp only [cond_true] at h
            split at h
            · rename_i b hb
              cases h
              refine ⟨hF.1, fun W im μ vals himLt hglob hinv hrep => ?_⟩
              -- the arrays, fixed
              have hpl : ∀ o, (fzPl (μ o)).blk = none := fun o => by
                cases ho : hget hs o with
                | none => rw [hinv.dom o ho]; rfl
                | some ob =>
                  obtain ⟨T, e, m, z, xs, rfl⟩ := allArr_get hA ho
                  rcases hinv.obj o _ ho with ⟨ad, hp', _⟩ | ⟨_, bb, cap, cells, hp', _⟩ | ⟨_, bb, cap, cs, hp', _⟩ <;> rw [hp'] <;> rfl
              have evF : Ev W im μ (hget hs) W (fun k => im k ∨ ∃ o, (μ o).blk = some k) (fun o => fzPl (μ o)) (hget (fzHp hs)) := by
                refine ⟨fun _ h => .inl h, fun _ _ => rfl, fun o ob ho => ?_⟩
                obtain ⟨T, e, m, z, xs, rfl⟩ := allArr_get hA ho
                refine ⟨.arr T e m true xs, by rw [fzHp_get hA, ho], m, true, xs, rfl, .inl ⟨rfl, rfl, ?_⟩⟩
                cases hm : μ o with
                | row bb cap => exact .inr ⟨bb, cap, rfl, rfl⟩
                | none => exact .inl rfl
                | «at» bb => exact .inl rfl
                | nil ad => exact .inl rfl
                | fz bb cap => exact .inl rfl
              have hobF : ∀ k ob, hget (fzHp hs) k = some ob → RepO W (fun k => im k ∨ ∃ o, (μ o).blk = some k) (fun o => fzPl (μ o)) (hget (fzHp hs)) (fzPl (μ k)) ob := by
                intro k ob hk
                rw [fzHp_get hA] at hk
                cases ho : hget hs k with
                | none => rw [ho] at hk; cases hk
                | some ob0 =>
                  obtain ⟨T, e, m, z, xs, rfl⟩ := allArr_get hA ho
                  rw [ho] at hk
                  cases hk
                  rcases hinv.obj k _ ho with ⟨ad, hp', hx⟩ | ⟨_, bb, cap, cells, hp', hb1, h1, h2, h3, h4⟩ | ⟨_, bb, cap, cs, hp', q1, q2, q3, q4, q5⟩
                  · rw [hp']
                    exact .inl ⟨ad, rfl, hx⟩
                  · rw [hp']
                    refine .inr (.inr ⟨rfl, bb, cap, _, rfl, .inr ⟨k, by rw [hp']; rfl⟩, h1, h2, ?_, RepL.mono (RepD.mono evF.fim evF.fheap e) _ _ h4⟩)
                    have := (cellsAt_block hb1).sub 0 (xs.length * e.size)
                    simpa using this
                  · rw [hp']
                    exact .inr (.inr ⟨rfl, bb, cap, cs, rfl, .inl q1, q2, q3, q4, RepL.mono (RepD.mono evF.fim evF.fheap e) _ _ q5⟩)
              have hltF : ∀ k, (im k ∨ ∃ o, (μ o).blk = some k) → k < W.heap.size := by
                rintro k (hk | ⟨o, hk⟩)
                · exact himLt k hk
                · exact (hinv.sep o k hk).2
              have hargsF := datL_rep hobF hargs (RepFs.ev evF _ _ hrep)
              have hglobF : GlobOK Γ W (fun k => im k ∨ ∃ o, (μ o).blk = some k) := fun gg v hv => (hglob gg v hv).ev ⟨fun _ h => .inl h, fun _ _ => rfl, fun _ _ h => (by cases h)⟩
              have hinvF : HpInv W (fun k => im k ∨ ∃ o, (μ o).blk = some k) noMu (hget []) := ⟨fun _ _ h => (by cases h), fun _ _ _ h => (by cases h), fun _ _ => rfl, fun _ _ h => (by cases h)⟩
              refine (hF.2 W _ noMu vals hltF hglobF hinvF hargsF).mono ?_
              rintro e w' ⟨ae', h1, im', μ', ⟨rfl, rfl⟩, S, he⟩
              have hlow : ∀ o, hs.length ≤ o → hget hs o = none := fun o ho => (by cases hq : hget hs o with
                | none => rfl
                | some ob => exact absurd (below_spec hB o ob hq) (by omega))
              have hfree : ∀ b, b < W.heap.size → w'.heap[b]? = W.heap[b]? := fun b hb => S.old b hb fun o h => by cases h
              have get2 : ∀ o, hget (fzHp hs ++ shH hs.length hs') o = if o < hs.length then hget (fzHp hs) o else hget hs' (o - hs.length) := by
                intro o
                rw [hget_append, hpSet_hget]
                by_cases ho : o < hs.length
                · rw [if_pos ho, shH_low _ _ _ ho]
                  cases hget (fzHp hs) o <;> rfl
                · rw [if_neg ho, fzHp_get hA, hlow o (by omega)]
                  have := shH_get hs.length hs' (o - hs.length)
                  rw [show o - hs.length + hs.length = o by omega] at this
                  exact this
              have ev2 : Ev W (fun k => im k ∨ ∃ o, (μ o).blk = some k) (fun o => fzPl (μ o)) (hget (fzHp hs)) w' im' (fun o => if o < hs.length then fzPl (μ o) else μ' (o - hs.length)) (hget (fzHp hs ++ shH hs.length hs')) := by
                refine ⟨S.imSub, fun b hb => hfree b (hltF b hb), fun o ob ho => ?_⟩
                have hlt : o < hs.length := by
                  rcases Nat.lt_or_ge o hs.length with h | h
                  · exact h
                  · rw [fzHp_get hA, hlow o h] at ho; cases ho
                refine ⟨ob, by rw [get2, if_pos hlt]; exact ho, ?_⟩
                simp only [if_pos hlt]
                exact ObEv.refl _ _
              refine ⟨_, _, im', fun o => if o < hs.length then fzPl (μ o) else μ' (o - hs.length), ⟨rfl, rfl⟩, ⟨S.os, S.tape, S.output, S.grow, fun b hb _ => hfree b hb, fun b hb => S.imSub b (.inl hb), fun b hb => ?_, S.imLt, fun o b hb => ?_, fun o ob ho => ?_, ⟨fun o b hb => ?_, fun o o' b h1 h2 => ?_, fun o ho => ?_, fun o ob ho => ?_⟩⟩, ?_⟩
              · rcases S.imNew b hb with (h | h) | ⟨o, h⟩ | h
                · exact .inl h
                · exact .inr (.inl h)
                · cases h
                · exact .inr (.inr h)
              · by_cases hlt : o < hs.length
                · simp only [if_pos hlt, hpl] at hb
                  cases hb
                · simp only [if_neg hlt] at hb
                  rcases S.own _ b hb with ⟨o0, h⟩ | h
                  · cases h
                  · exact .inr h
              · have hlt : o < hs.length := by
                  rcases Nat.lt_or_ge o hs.length with h | h
                  · exact h
                  · rw [hlow o h] at ho; cases ho
                obtain ⟨ob', g1, g2⟩ := evF.fob o ob ho
                refine ⟨ob', by rw [get2, if_pos hlt]; exact g1, ?_⟩
                simp only [if_pos hlt]
                exact g2
              · by_cases hlt : o < hs.length
                · simp only [if_pos hlt, hpl] at hb
                  cases hb
                · simp only [if_neg hlt] at hb
                  exact S.inv.sep _ b hb
              · by_cases hlt : o < hs.length
                · simp only [if_pos hlt, hpl] at h1
                  cases h1
                · by_cases hlt' : o' < hs.length
                  · simp only [if_pos hlt', hpl] at h2
                    cases h2
                  · simp only [if_neg hlt] at h1
                    simp only [if_neg hlt'] at h2
                    have := S.inv.inj _ _ b h1 h2
                    omega
              · rw [get2] at ho
                by_cases hlt : o < hs.length
                · rw [if_pos hlt, fzHp_get hA] at ho
                  simp only [if_pos hlt]
                  cases hq : hget hs o with
                  | none => rw [hinv.dom o hq]; rfl
                  | some ob0 =>
                    obtain ⟨T, e, m, z, xs, rfl⟩ := allArr_get hA hq
                    rw [hq] at ho
                    cases ho
                · rw [if_neg hlt] at ho
                  simp only [if_neg hlt]
                  exact S.inv.dom _ ho
              · rw [get2] at ho
                by_cases hlt : o < hs.length
                · rw [if_pos hlt] at ho
                  simp only [if_pos hlt]
                  exact (hobF o ob ho).ev ev2 fun b hb => by rw [hpl] at hb; cases hb
                · rw [if_neg hlt] at ho
                  simp only [if_neg hlt]
                  have := S.inv.obj _ ob ho
                  obtain ⟨T, e, m, z, xs, rfl⟩ := allArr_get hA' ho
                  exact this
              · cases ae' with
                | panic t n => cases hb; exact he
                | ret l =>
                  match l, hb, he with
                  | [a], hb, ⟨v, e1, h1, h2⟩ =>
                    simp only [shE] at hb
                    split at hb
                    · rename_i b' hb'
                      cases hb
                      refine ⟨v, e1, ?_, ?_⟩
                      · cases a with
                        | d t x =>
                          cases hb'
                          simp only [RepA] at h1 ⊢
                          exact h1
                        | os i n =>
                          cases hb'
                          simp only [RepA] at h1 ⊢
                          obtain ⟨T, e, m, z, xs, g1, g2, u, g3, g4, g5⟩ := h1
                          refine ⟨T, e, m, z, xs, ?_, g2, u, g3, g4, ?_⟩
                          · rw [get2, if_neg (by omega), Nat.add_sub_cancel]
                            exact g1
                          · rw [if_neg (by omega), Nat.add_sub_cancel]
                            exact g5
                        | _ => cases hb'
                      · rw [h2]
                        cases a with
                        | d t x => cases hb'; rfl
                        | os i n => cases hb'; rfl
                        | _ => cases hb'
                    · cases hb
            · cases h
      · cases h
end Go.Vm
