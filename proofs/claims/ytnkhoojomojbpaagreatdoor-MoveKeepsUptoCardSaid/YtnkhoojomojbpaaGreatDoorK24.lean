/- Part V of the abstract machine: hand-made answers on top of the executor's: slices.Clone of an empty slice. -/
import Derived.Test.YtnkhoojomojbpaaGreatDoorK23
namespace Go.Vm
theorem qv {W : World} {im : Nat -> Prop} {μ : Mu} {h0 : Hp} (iC : ∀ b, im b -> b < W.heap.size) (hI : jR W im μ h0) : dc W im μ h0 W im μ h0 :=
 ⟨rfl, rfl, rfl, Nat.le_refl _, fun _ _ _ => rfl, fun _ h => h, fun _ h => .inl h, iC, fun o b h => .inl ⟨o, h⟩, fun o ob h => ⟨ob, h, cA.refl _ _⟩, hI⟩
theorem ov {W : World} {im : Nat -> Prop} {μ : Mu} {h0 : Hp} (iC : ∀ b, im b -> b < W.heap.size) (hI : jR W im μ h0) (x : Obj) : dc W im μ h0 (W.alloc x) im μ h0 := by
 have hb : ∀ b, b < W.heap.size -> (W.alloc x).heap[b]? = W.heap[b]? := fun b h => heap_alloc_old W _ h
 have ev : Ev W im μ h0 (W.alloc x) im μ h0 := ⟨fun _ h => h, fun b h => hb b (iC b h), fun o ob h => ⟨ob, h, cA.refl _ _⟩⟩
 refine ⟨rfl, rfl, rfl, by simp, fun b h _ => hb b h, fun _ h => h, fun _ h => .inl h, fun b h => Nat.lt_of_lt_of_le (iC b h) (by simp), fun o b h => .inl ⟨o, h⟩, fun o ob h => ⟨ob, h, cA.refl _ _⟩, ⟨fun o b h => ⟨(hI.sep o b h).1, Nat.lt_of_lt_of_le (hI.sep o b h).2 (by simp)⟩, hI.inj, hI.dom, fun o ob h => (hI.obj o ob h).ev ev (fun b hb' => hb b (hI.sep o b hb').2)⟩⟩
def nL (base : FnE) : FnE :=
 { run := fun args hs k =>
   match args with
   | [.d (.slice e) xs] => (match xs with | [] => k (.ret [.emp]) hs | x :: l => base.run [.d (.slice e) (x :: l)] hs k)
   | [.os o n] =>
    (match aA hs o with
    | some (.arr _ e m _ xs) => (match xs with | [] => bif Nat.beq n m then k (.ret [.d (.slice e) []]) hs else none | _ :: _ => base.run [.os o n] hs k)
    | _ => none)
   | [.emp] => k (.ret [.emp]) hs
   | l => base.run l hs k }
theorem mH {P : Program} {Γ : Nat -> Option AV} {f : FuncId} {base : FnE} (hb : FnE.OK P Γ f base) (hcall : ∀ (vs : Array Value) (w : World), (callFunc f vs).run P w = .ok (.enter f vs) w)
  (hnil : ∀ (w : World) (c : Nat), Calls P f #[.slice none 0 c] w fun e w' => e = .returned (.slice none 0 0) /\ w' = w)
  (hemp : ∀ (w : World) (a : Addr) (c : Nat), Calls P f #[.slice (some a) 0 c] w fun e w' => (∃ b, e = .returned (.slice b 0 0)) /\ ∃ o, w' = w.alloc o) : FnE.OK P Γ f (nL base) := by
 have key : ∀ {e : Ty} (av : AV) (hs : LHp), Src (aA hs) av e [] -> FnH P Γ f [av] (aA hs) (fun nd h1 => nd = .ret [.d (.slice e) []] /\ h1 = aA hs) := by
  intro e av hs hsrc
  refine ⟨hcall, fun W im μ vals iC hglob hI hargs => ?_⟩
  simp only [RepFs] at hargs
  obtain ⟨v, us, rfl, h1, h2, rfl⟩ := hargs
  have JV : bo W im μ (aA hs) av v := bo.ofA h1 h2
  obtain ⟨ad, cap, rfl, _, _⟩ := hsrc.sound JV hI.obj
  have hend : ∀ (b : Option Addr) (w' : World) (bI : Nat -> Prop), j5 w' bI μ (aA hs) (.ret [.d (.slice e) []]) (.returned (.slice b 0 0)) := fun b w' bI => by
   refine ⟨_, rfl, ?_, rfl⟩
   simp only [RepA, aM, Value.cells]
   refine ⟨b, 0, rfl, Nat.le_refl _, Nat.zero_le _, fun _ => rfl, ?_⟩
   cases b with
   | none => rfl
   | some a => exact .inl rfl
  cases ad with
  | none =>
   refine Calls.mono (hnil W cap) ?_
   rintro e' w' ⟨rfl, rfl⟩
   exact ⟨_, _, im, μ, ⟨rfl, rfl⟩, qv iC hI, hend none _ _⟩
  | some a =>
   refine Calls.mono (hemp W a cap) ?_
   rintro e' w' ⟨⟨b, rfl⟩, o, rfl⟩
   exact ⟨_, _, im, μ, ⟨rfl, rfl⟩, ov iC hI o, hend b _ _⟩
 have key2 : ∀ {e : Ty} (av : AV) (hs : LHp), Src (aA hs) av e [] -> FnH P Γ f [av] (aA hs) (fun nd h1 => nd = .ret [.emp] /\ h1 = aA hs) := by
  intro e av hs hsrc
  refine ⟨hcall, fun W im μ vals iC hglob hI hargs => ?_⟩
  simp only [RepFs] at hargs
  obtain ⟨v, us, rfl, h1, h2, rfl⟩ := hargs
  have JV : bo W im μ (aA hs) av v := bo.ofA h1 h2
  obtain ⟨ad, cap, rfl, _, _⟩ := hsrc.sound JV hI.obj
  have hend : ∀ (b : Option Addr) (w' : World) (bI : Nat -> Prop), j5 w' bI μ (aA hs) (.ret [.emp]) (.returned (.slice b 0 0)) := fun b w' bI => by
   refine ⟨_, rfl, ?_, rfl⟩
   simp only [RepA, Value.cells]
   exact ⟨b, rfl⟩
  cases ad with
  | none =>
   refine Calls.mono (hnil W cap) ?_
   rintro e' w' ⟨rfl, rfl⟩
   exact ⟨_, _, im, μ, ⟨rfl, rfl⟩, qv iC hI, hend none _ _⟩
  | some a =>
   refine Calls.mono (hemp W a cap) ?_
   rintro e' w' ⟨⟨b, rfl⟩, o, rfl⟩
   exact ⟨_, _, im, μ, ⟨rfl, rfl⟩, ov iC hI o, hend b _ _⟩
 refine ⟨?_, ?_⟩
 ·intro R args hs k
  simp only [nL, Bool.cond_eq_ite]
  repeat' (first | rfl | exact hb.eq _ _ _ | split)
 ·intro args hs ae aH h
  simp only [nL] at h
  split at h
  ·split at h
   ·cases h; exact key2 _ _ .d
   ·exact hb.ok _ _ _ _ h
  ·rename_i o n
   split at h
   ·rename_i T e m z xs ho
    split at h
    ·cases hq : Nat.beq n m with
     | false => rw [hq] at h; cases h
     | true =>
      rw [hq] at h
      cases h
      have := bj hq
      subst this
      exact key _ _ (.os ho)
    ·exact hb.ok _ _ _ _ h
   ·cases h
  ·cases h; exact key2 (e := .unit) _ _ .emp
  ·exact hb.ok _ _ _ _ h
end Go.Vm
