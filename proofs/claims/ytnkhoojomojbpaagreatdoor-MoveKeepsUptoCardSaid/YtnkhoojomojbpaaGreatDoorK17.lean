/- Part OC of the abstract machine: copy into a window of a list that has been made. -/
import Derived.Test.YtnkhoojomojbpaaGreatDoorK16
import Derived.Laws.IdiomCopy
namespace Go.Vm
universe u
variable {R : Type} {E : Env} {P : Program} {C : Ctx} {s : LSt} {r : R} {k : E1 -> Option R}
variable {dst : Option Tmp} {ty : TypeId} {pos : String} {bT : Array Edge} {gd : Option (Nat × Bool)}
inductive uJ (hp : Hp) : AV -> (e : Ty) -> List e.den -> Prop
 | s {a : AV} {e : Ty} {xs : List e.den} : Src hp a e xs -> uJ hp a e xs
 | w {o n j q : Nat} {T : TypeId} {e : Ty} {z : Bool} {xs : List e.den} : hp o = some (.arr T e n z xs) -> j + q <= xs.length -> uJ hp (.ow o n j q) e ((xs.drop j).take q)
theorem uJ.hp {hp bp : Hp} {a : AV} {e : Ty} {xs : List e.den} (h : uJ hp a e xs) (hk : ∀ k ∈ a.objs, bp k = hp k) : uJ bp a e xs := by
 cases h with
 | s h => exact .s (h.hp hk)
 | w h1 h2 => exact .w ((hk _ (by simp [AV.objs])).trans h1) h2
theorem uJ.sound {w : World} {im : Nat -> Prop} {μ : Mu} {hp : Hp} {a : AV} {e : Ty} {xs : List e.den} {v : Value} (h : uJ hp a e xs) (hv : bo w im μ hp a v)
  (dK : ∀ k ob, hp k = some ob -> il w im μ hp (μ k) ob) : Xw w im e xs v := by
 cases h with
 | s h => exact h.sound hv dK
 | @w o n j q T e z ys ho hle2 =>
  obtain ⟨hr, cy⟩ := hv
  simp only [RepA] at hr
  obtain ⟨T', e', m', z', px, dS, hle, u, hc, h1, eg⟩ := hr
  rw [ho] at dS
  cases dS
  obtain ⟨b, cap, hb, rfl⟩ := eg rfl
  rcases (dK o _ ho).arr with ⟨ad, bp, rfl⟩ | ⟨b', cap', cs, bp, wN, zo, h3', h4'⟩
  ·grind
  ·have hbb : b' = b /\ cap' = cap := by
    grind
   obtain ⟨rfl, rfl⟩ := hbb
   have hq : ((ys.drop j).take q).length = q := by rw [List.length_take, List.length_drop]; omega
   refine ⟨some ⟨b', j * e.size, none⟩, cap' - j, by rw [hq]; exact aL hc cy, by rw [hq]; omega, .inr ⟨b', j * e.size, (cs.drop (j * e.size)).take (q * e.size), rfl, ?_, ?_⟩⟩
   ·have := h3'.sub (j * e.size) (q * e.size)
    grind
   grind [aR.take, aM.length, aR.drop]
def sw {α : Type} (xs : List α) (j q : Nat) (ys : List α) : List α := xs.take j ++ ys.take q ++ xs.drop (j + min ys.length q)
theorem oc {α : Type} {xs : List α} {j q : Nat} {ys : List α} (h : j + q <= xs.length) : (sw xs j q ys).length = xs.length := by
 unfold sw
 grind
theorem Fe {s : ASt} {t t2 : TypeId} {x y : Operand} {o m j q : Nat} {T : TypeId} {e : Ty} {xs ys : List e.den} {av : AV} (hx : s.ev C x = .ow o m j q \/ (s.ev C x = .os o m /\ j = 0 /\ q = xs.length /\ xs ≠ [])) (ho : s.hp o = some (.arr T e m false xs)) (hjq : j + q <= xs.length) (hy : s.ev C y = av) (hs : uJ s.hp av e ys)
  (ht : SlT P t e.size) (he : e.size = 1) : bB P C ⟨dst, .call ⟨.builtin .copy, #[x, y], #[t, t2]⟩, ty, pos, bT, gd⟩ ⟨dst, .d (.int .i64) ((min ys.length q : Nat) : Int), av.objs, [(o, .arr T e m false (sw xs j q ys))]⟩ s := by
 intro s1 fj fA im μ a w hi hd
 have hx0 : s1.ev C x = s.ev C x := fj x (by simp [Op.operands, Call.operands])
 have hy1 : s1.ev C y = av := (fj y (by simp [Op.operands, Call.operands])).trans hy
 have uB : s1.hp o = some (.arr T e m false xs) := (fA o (.inr (by simp))).trans ho
 have q8 : uJ s1.hp av e ys := hs.hp (fun k hk => fA k (.inl hk))
 have hsrc := q8.sound (hy1 ▸ hi.ev y) hi.obj
 obtain ⟨b, cap, c3, iQ, hv⟩ : ∃ b cap c3, (μ o = .row b cap \/ μ o = .fz b cap) /\ a.eval x = .slice (some ⟨b, j * e.size, none⟩) q c3 := by
  rcases hx with hx | ⟨hx, rfl, rfl, j2⟩
  ·obtain ⟨hr, cy⟩ := (hx0.trans hx) ▸ hi.ev x
   simp only [RepA] at hr
   obtain ⟨T', e', m', z', px, dS, hle, u, hc, h1, eg⟩ := hr
   rw [uB] at dS
   cases dS
   obtain ⟨b, cap, iQ, rfl⟩ := eg rfl
   exact ⟨b, cap, cap - j, iQ, aL hc cy⟩
  ·obtain ⟨hr, cy⟩ := (hx0.trans hx) ▸ hi.ev x
   simp only [RepA] at hr
   obtain ⟨T', e', m', z', px, dS, hle, u, hc, h1, eg⟩ := hr
   rw [uB] at dS
   cases dS
   have hpl2 := eg rfl
   clear eg
   rcases (hi.obj o _ uB).arr with ⟨ad, bp, rfl⟩ | ⟨b, cap, cs, bp, _⟩
   ·exact absurd rfl j2
   ·have hpl3 : u = .slice (some ⟨b, 0, none⟩) xs.length cap := by rcases bp with bp | bp <;> rw [bp] at hpl2 <;> exact hpl2
    subst hpl3
    exact ⟨b, cap, cap, bp, by rw [Nat.zero_mul]; exact aL hc cy⟩
 obtain ⟨sa, scap, hsv, hsc, hsrc⟩ := hsrc
 obtain ⟨el, inf, hu, hinf, hsz1⟩ := ht
 have hs1' : (P.info? el).map (·.size) = some 1 := by rw [hinf, Option.map_some, hsz1, he]
 rcases hi.obj o _ uB with ⟨ad, bp, rfl⟩ | ⟨_, b', cap', cells, bp, hb, hcap, hmax, fP, hl⟩ | ⟨hz, _⟩
 ·rcases iQ with iQ | iQ <;> rw [bp] at iQ <;> cases iQ
 ·obtain ⟨rfl, rfl⟩ : b' = b /\ cap' = cap := by
   rcases iQ with iQ | iQ <;> rw [iQ] at bp <;> cases bp <;> exact ⟨rfl, rfl⟩
  replace iQ := bp
  have hlen := aR.length (aM.length e) _ _ hl
  rw [he, Nat.mul_one] at fP
  have hxl : xs.length <= cells.size := by omega
  obtain ⟨cs, pw, hrun⟩ : ∃ cs : List Value, aR (aM w im e) cs (ys.take q) /\ (Builtin.copy_ #[t, t2] ty #[.slice (some ⟨b', j * e.size, none⟩) q c3, .slice sa ys.length scap]).run P w =
    .ok (goInt ((min ys.length q : Nat) : Int)) (w.setRow b' (cells.toList.take j ++ cs ++ cells.toList.drop (j + cs.length)).toArray) := by
   rcases hsrc with hn | ⟨sb, soff, JX, rfl, hca, hrl⟩
   ·subst hn
    refine ⟨[], by rw [List.take_nil]; rfl, ?_⟩
    have h0 := run_copy_none (P := P) w t t2 ty el (some ⟨b', j * e.size, none⟩) sa q c3 ([] : List e.den).length scap hu hs1' (by simp)
    have e0 : (cells.toList.take j ++ ([] : List Value) ++ cells.toList.drop (j + ([] : List Value).length)).toArray = cells := by
     rw [List.append_nil, show j + ([] : List Value).length = j from rfl, List.take_append_drop, Array.toArray_toList]
    rw [e0, setRow_self w b' cells T (0, 0) hb, show min ([] : List e.den).length q = 0 from Nat.zero_min _]
    exact h0
   ·have CZ : (JX.take q).length = Nat.min ys.length q := by
     have := aR.length (aM.length e) _ _ hrl
     rw [he, Nat.mul_one] at this
     rw [List.length_take, this]
     exact Nat.min_comm _ _
    have hone : ∀ v ∈ JX.take q, v.oneCell' = true := fun v hv => aR.one (aM.one e) _ _ hrl v (List.mem_of_mem_take hv)
    have hrt : aR (aM w im e) (JX.take q) (ys.take q) := by
     have := aR.take (aM.length e) hrl q
     rw [he, Nat.mul_one] at this
     exact this
    refine ⟨JX.take q, hrt, ?_⟩
    have h0 := run_copy_row P w t t2 ty el b' (j * e.size) q c3 ⟨sb, soff, none⟩ ys.length scap cells T (JX.take q) hu hs1' hb CZ (fun i v hiv => by
     have hiv' : JX[i]? = some v := by
      rw [List.getElem?_take] at hiv
      split at hiv
      ·exact hiv
      ·cases hiv
     have := hca i v hiv'
     rw [show (⟨sb, soff, none⟩ : Addr).add i = ⟨sb, soff + i, none⟩ from by unfold Addr.add; split <;> simp_all]
     exact this) (by
      rw [he, Nat.mul_one, CZ]
      have : min ys.length q <= q := Nat.min_le_right ys.length q
      show j + min ys.length q <= cells.size
      omega) hone
    rw [h0, he, Nat.mul_one, CZ]
  have hcl2 : cs.length = min ys.length q := by
   have := aR.length (aM.length e) _ _ pw
   rw [he, Nat.mul_one, List.length_take] at this
   omega
  have fO : ∀ ob, s1.hp o = some ob -> cA ob (μ o) (.arr T e m false (sw xs j q ys)) (.row b' cap') := by
   intro ob dK
   rw [uB] at dK
   obtain rfl := Option.some.inj dK
   exact ⟨m, false, _, rfl, .inl ⟨rfl, oc hjq, .inl iQ.symm⟩⟩
  have hw : jk w (w.setRow b' (cells.toList.take j ++ cs ++ cells.toList.drop (j + cs.length)).toArray) (μ o).blk :=
   ⟨rfl, rfl, rfl, by simp [World.setRow], fun k _ hk => setRow_other w b' k _ (fun e => hk (by rw [iQ, e]; rfl))⟩
  have ev := hi.evObj fO hw
  have EX : (cells.toList.take j ++ cs ++ cells.toList.drop (j + cs.length)).length = cells.size := by
   rw [List.length_append, List.length_append, List.length_take, List.length_drop, Array.length_toList, hcl2]
   have := Nat.min_le_right ys.length q
   omega
  refine ⟨goInt ((min ys.length q : Nat) : Int), _, im, _, .inl ?_, hi.obj1 (dst := dst) fO hw ?_ ?_ hd ?_⟩
  ·simp only [execOp, resolve, invoke, builtin, Sem.run_bind, Sem.run_pure, Result.andThen_ok, List.map_toArray, List.map_cons, List.map_nil, hv, hsv, hrun]
  ·intro kk hk
   cases hk
   have bJ : b' < w.heap.size := (Array.getElem?_eq_some_iff.1 hb).1
   exact ⟨by simpa [World.setRow] using bJ, .inl (by rw [iQ]; rfl)⟩
  ·refine .inr (.inl ⟨rfl, b', cap', _, rfl, setRow_heap w b' _ _ _ _ hb, by rw [oc hjq]; exact hcap, hmax, ?_, ?_⟩)
   ·rw [he, Nat.mul_one, List.size_toArray, EX, fP]
   ·have h2 : aR (aM w im e) ((cells.toList.take (xs.length * e.size)).take j ++ cs ++ (cells.toList.take (xs.length * e.size)).drop (j + min ys.length q)) (sw xs j q ys) := by
     have a1 := aR.take (aM.length e) hl j
     have a2 := aR.drop (aM.length e) hl (j + min ys.length q)
     rw [he, Nat.mul_one] at a1 a2
     rw [he]
     exact aR.append _ _ _ _ (aR.append _ _ _ _ a1 pw) a2
    have hmono := aR.mono (aM.mono ev.fim ev.fheap e) _ _ h2
    have hee : (cells.toList.take j ++ cs ++ cells.toList.drop (j + cs.length)).take ((sw xs j q ys).length * e.size) =
      (cells.toList.take (xs.length * e.size)).take j ++ cs ++ (cells.toList.take (xs.length * e.size)).drop (j + min ys.length q) := by
     rw [oc hjq, he, Nat.mul_one, List.take_take, Nat.min_eq_left (by omega), hcl2]
     have Ho : (cells.toList.take j ++ cs).length = j + min ys.length q := by
      rw [List.length_append, List.length_take, Array.length_toList, hcl2]
      omega
     have := Nat.min_le_right ys.length q
     rw [List.take_append, Ho, List.take_of_length_le (by omega), List.drop_take]
    show aR _ ((cells.toList.take j ++ cs ++ cells.toList.drop (j + cs.length)).toArray.toList.take _) _
    rw [List.toList_toArray, hee]
    exact hmono
  ·exact bo.ofA (by simp only [RepA, aM, goInt, Value.cells]) rfl
 ·cases hz
def Ff (hp : LHp) (a : AV) (e : Ty) : Option (List e.den) :=
 match a with
 | .ow o n j q => (match aA hp o with | some (.arr _ e2 m _ xs) => bif Nat.beq n m && Nat.ble (j + q) xs.length then (match Fc e2 e xs with | some xs => some ((xs.drop j).take q) | none => none) else none | _ => none)
 | a => Qk hp a e
theorem sx {hp : LHp} {a : AV} {e : Ty} {xs : List e.den} (h : Ff hp a e = some xs) : uJ (aA hp) a e xs := by
 unfold Ff at h
 split at h
 ·split at h
  ·rename_i o n j q _ T e' m z ys ho
   cases hb : Nat.beq n m && Nat.ble (j + q) ys.length with
   | false => rw [hb] at h; cases h
   | true =>
    rw [hb] at h
    simp only [ba] at hb
    have h1 := bj hb.1
    subst h1
    simp only [ai] at h
    unfold Fc at h
    by_cases he : e' = e
    ·subst he
     simp only [dite_true] at h
     cases h
     exact .w ho (Nat.le_of_ble_eq_true hb.2)
    grind
  ·cases h
 ·exact .s (vx h)
def pM (E : Env) (t : TypeId) (x y : Operand) (s : LSt) (k : E1 -> Option R) : Option R :=
 match s.ev E x with
 | .ow o n j q =>
  (match aA s.hp o with
  | some (.arr T e m false xs) =>
   bif Nat.beq n m && Nat.beq e.size 1 && gh E.P t e.size && Nat.ble (j + q) xs.length then
    (match Ff s.hp (s.ev E y) e with
    | some ys => k ⟨.d (.int .i64) ((min ys.length q : Nat) : Int), (s.ev E y).objs, [(o, .arr T e m false (sw xs j q ys))], s.nx⟩
    | none => none)
   else none
  | _ => none)
 | .os o n =>
  (match aA s.hp o with
  | some (.arr T e m false xs) =>
   bif Nat.beq n m && Nat.beq e.size 1 && gh E.P t e.size && Nat.ble 1 xs.length then
    (match Ff s.hp (s.ev E y) e with
    | some ys => k ⟨.d (.int .i64) ((min ys.length xs.length : Nat) : Int), (s.ev E y).objs, [(o, .arr T e m false (sw xs 0 xs.length ys))], s.nx⟩
    | none => none)
   else none
  | _ => none)
 | _ => none
theorem HZ (bt : C.Γ = E.gam) {t t2 : TypeId} {x y : Operand} (h : pM E t x y s k = some r) : dD E C ⟨dst, .call ⟨.builtin .copy, #[x, y], #[t, t2]⟩, ty, pos, bT, gd⟩ s k r := by
 unfold pM at h
 have ex := bC bt s x
 have ey := bC bt s y
 split at h
 ·rename_i o n j q hx
  rw [hx] at ex
  split at h
  ·rename_i T e m xs ho
   cases hb : Nat.beq n m && Nat.beq e.size 1 && gh E.P t e.size && Nat.ble (j + q) xs.length with
   | false => rw [hb] at h; cases h
   | true =>
    rw [hb] at h
    simp only [ba] at hb
    obtain ⟨⟨⟨b1, b2⟩, b3⟩, b4⟩ := hb
    have b1 := bj b1
    subst b1
    simp only [ai] at h
    split at h
    ·rename_i ys J1
     exact .of _ h (Fe (.inl ex) ho (Nat.le_of_ble_eq_true b4) ey (sx J1) (cQ b3) (bj b2))
    ·cases h
  ·cases h
 ·rename_i o n hx
  rw [hx] at ex
  split at h
  ·rename_i T e m xs ho
   cases hb : Nat.beq n m && Nat.beq e.size 1 && gh E.P t e.size && Nat.ble 1 xs.length with
   | false => rw [hb] at h; cases h
   | true =>
    rw [hb] at h
    simp only [ba] at hb
    obtain ⟨⟨⟨b1, b2⟩, b3⟩, b4⟩ := hb
    have b1 := bj b1
    subst b1
    simp only [ai] at h
    split at h
    ·rename_i ys J1
     have j2 : xs ≠ [] := fun e => by rw [e] at b4; cases b4
     exact .of _ h (Fe (.inr ⟨ex, rfl, rfl, j2⟩) ho (by omega) ey (sx J1) (cQ b3) (bj b2))
    ·cases h
  ·cases h
 ·cases h
end Go.Vm
