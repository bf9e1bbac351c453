/- Part O of the abstract machine: the executor's other operations. -/
import Derived.Test.YtnkhoojomojbpaaGreatDoorK15
import Derived.Lib.AppendZerosOnto
namespace Go.Vm
variable {R : Type}
section
variable {P : Program} {C : Ctx} {s : ASt}
variable {dst : Option Tmp} {ty : TypeId} {pos : String} {bT : Array Edge} {gd : Option (Nat × Bool)}
theorem Dz {t : TypeId} {x : Operand} {lo hi : Option Operand} {e : Ty} {xs : List e.den} {l h : Nat} (hx : ir s.hp (s.ev C x) (.slice e) xs) (JZ : List Nat) (CP : ∀ k ∈ (s.ev C x).osl, k ∈ JZ) (ht : SlT P t e.size) (mV : fq C s lo 0 l) (qd : fq C s hi xs.length h)
  (h1 : l <= h) (h2 : h <= xs.length) : bB P C ⟨dst, .slice t x lo hi none, ty, pos, bT, gd⟩ ⟨dst, .d (.slice e) ((xs.take h).drop l), JZ, []⟩ s :=
 df JZ fun w im μ hp ρ hr hk dK => by
  have hxc : ir hp (s.ev C x) (.slice e) xs := hx.congr (fun k h => hk k (CP k h))
  obtain ⟨hA0, cy⟩ := (hr x (by simp [Op.operands])).toA hxc.plain
  rw [hxc.agg] at cy
  have hA := hxc.sound dK _ hA0
  simp only [aM] at hA
  obtain ⟨ad, cap, hc, h3, h4, h00, h5⟩ := hA
  have hv := aL hc cy
  obtain ⟨et, i, hu, fc, fP⟩ := ht
  have hb := ez (P := P) w (len := xs.length) (cap := cap) (da mV (fun o ho => hr o (by subst ho; simp [Op.operands]))) (da qd (fun o ho => hr o (by subst ho; cases lo <;> simp [Op.operands]))) h1 (by omega) true
  refine ⟨.slice (if cap = l then ad else ad.map (·.add (l * e.size))) (h - l) (cap - l), w, ?_, rfl, rfl, rfl, rfl, ⟨?_, rfl⟩⟩
  ·simp [execOp, hv, Instr.sliceAt, Instr.slice, run_underlying hu, hb, sizeOf, typeInfo, fc, fP]
  ·simp only [RepA, aM, Value.cells]
   have hl : ((xs.take h).drop l).length = h - l := by rw [List.length_drop, List.length_take]; omega
   refine ⟨_, cap - l, by rw [hl], by omega, by omega, ?_, ?_⟩
   ·grind [Option.map_eq_none_iff]
   ·by_cases CZ : cap = l
    ·have : (xs.take h).drop l = [] := by
      grind
     rw [if_pos CZ, this]
     cases ad with
     | none => rfl
     | some ad => exact .inl rfl
    ·rw [if_neg CZ]
     cases ad with
     | none => have h5' : xs = [] := h5; rw [h5']; simp [kP]
     | some ad =>
      rcases h5 with h5 | ⟨hs, iC, cs, h6, h7⟩
      ·rw [h5]; exact .inl (by simp)
      ·obtain ⟨b, off, sp⟩ := ad
       simp only at hs iC h6
       subst hs
       simp only [Option.map_some, cT, kP]
       refine .inr ⟨trivial, iC, (cs.take (h * e.size)).drop (l * e.size), ?_, aR.drop (aM.length e) (aR.take (aM.length e) h7 h) l⟩
       intro j v hj
       rw [List.getElem?_drop, List.getElem?_take] at hj
       split at hj
       ·have := h6 _ _ hj; rw [Nat.add_assoc]; exact this
       ·cases hj
theorem z8 (w : World) {lo hi mx : Option Value} {len cap l h m : Nat} (mV : match lo with | none => l = 0 | some v => ∃ k z, v = .int k z /\ 0 <= z /\ z.toNat = l) (qd : match hi with | none => h = 0 | some v => ∃ k z, v = .int k z /\ 0 <= z /\ z.toNat = h)
  (hmx : match mx with | none => m = 0 | some v => ∃ k z, v = .int k z /\ 0 <= z /\ z.toNat = m) (h1 : l <= h) (h2 : h <= m) (h3 : m <= cap) : hi.isSome = true -> mx.isSome = true -> (Instr.sliceBounds true len cap lo hi mx).run P w = .ok (l, h, m) w := by
 intro q8 nc
 cases hi with
 | none => cases q8
 | some v =>
  cases mx with
  | none => cases nc
  | some u =>
   obtain ⟨k, z, rfl, hz, rfl⟩ := qd
   obtain ⟨k2, z2, rfl, JW, rfl⟩ := hmx
   cases lo with
   | none =>
    simp only at mV; subst mV
    simp [Instr.sliceBounds, bL w JW (show z2 <= (cap : Int) by omega), bL w hz (show z <= ((z2.toNat : Nat) : Int) by omega)]
   | some u' =>
    obtain ⟨k', z', rfl, P0, rfl⟩ := mV
    simp [Instr.sliceBounds, bL w JW (show z2 <= (cap : Int) by omega), bL w hz (show z <= ((z2.toNat : Nat) : Int) by omega), bL w P0 (show z' <= ((z.toNat : Nat) : Int) by omega)]
theorem Aa {t : TypeId} {x hh mm : Operand} {lo : Option Operand} {m : Nat} {e : Ty} {xs : List e.den} {l h : Nat} (hx : ir s.hp (s.ev C x) (.slice e) xs) (JZ : List Nat) (CP : ∀ k ∈ (s.ev C x).osl, k ∈ JZ) (ht : SlT P t e.size) (mV : fq C s lo 0 l) (qd : fq C s (some hh) 0 h) (hmm : fq C s (some mm) 0 m) (h2m : h <= m) (hml : m <= xs.length)
  (h1 : l <= h) (h2 : h <= xs.length) : bB P C ⟨dst, .slice t x lo (some hh) (some mm), ty, pos, bT, gd⟩ ⟨dst, .d (.slice e) ((xs.take h).drop l), JZ, []⟩ s :=
 df JZ fun w im μ hp ρ hr hk dK => by
  have hxc : ir hp (s.ev C x) (.slice e) xs := hx.congr (fun k h => hk k (CP k h))
  obtain ⟨hA0, cy⟩ := (hr x (by simp [Op.operands])).toA hxc.plain
  rw [hxc.agg] at cy
  have hA := hxc.sound dK _ hA0
  simp only [aM] at hA
  obtain ⟨ad, cap, hc, h3, h4, h00, h5⟩ := hA
  have hv := aL hc cy
  obtain ⟨et, i, hu, fc, fP⟩ := ht
  have hb := z8 (P := P) w (lo := lo.map ρ) (hi := some (ρ hh)) (mx := some (ρ mm)) (len := xs.length) (cap := cap) (da mV (fun o ho => hr o (by subst ho; simp [Op.operands]))) (da qd (fun o ho => hr o (by cases ho; cases lo <;> simp [Op.operands]))) (da hmm (fun o ho => hr o (by cases ho; cases lo <;> simp [Op.operands]))) h1 h2m (by omega : m <= cap) rfl rfl
  refine ⟨.slice (if m = l then ad else ad.map (·.add (l * e.size))) (h - l) (m - l), w, ?_, rfl, rfl, rfl, rfl, ⟨?_, rfl⟩⟩
  ·simp [execOp, hv, Instr.sliceAt, Instr.slice, run_underlying hu, hb, sizeOf, typeInfo, fc, fP]
  ·simp only [RepA, aM, Value.cells]
   have hl : ((xs.take h).drop l).length = h - l := by rw [List.length_drop, List.length_take]; omega
   refine ⟨_, m - l, by rw [hl], by omega, by omega, ?_, ?_⟩
   ·grind [Option.map_eq_none_iff]
   ·by_cases CZ : m = l
    ·have : (xs.take h).drop l = [] := by
      grind
     rw [if_pos CZ, this]
     cases ad with
     | none => rfl
     | some ad => exact .inl rfl
    ·rw [if_neg CZ]
     cases ad with
     | none => have h5' : xs = [] := h5; rw [h5']; simp [kP]
     | some ad =>
      rcases h5 with h5 | ⟨hs, iC, cs, h6, h7⟩
      ·grind
      ·obtain ⟨b, off, sp⟩ := ad
       simp only at hs iC h6
       subst hs
       simp only [Option.map_some, cT, kP]
       refine .inr ⟨trivial, iC, (cs.take (h * e.size)).drop (l * e.size), ?_, aR.drop (aM.length e) (aR.take (aM.length e) h7 h) l⟩
       intro j v hj
       rw [List.getElem?_drop, List.getElem?_take] at hj
       split at hj
       ·have := h6 _ _ hj; rw [Nat.add_assoc]; exact this
       ·cases hj
end
section
variable {E : Env} {C : Ctx} {s : LSt} {k : E1 -> Option R} {r : R} {dst : Option Tmp} {ty : TypeId} {pos : String} {bT : Array Edge} {gd : Option (Nat × Bool)}
def fv {α : Type} (xs : List α) (i : Nat) (y : α) : Option (List α) := bif Nat.blt i xs.length then some (xs.set i y) else none
theorem HT {α : Type} {xs zs : List α} {i : Nat} {y : α} (h : fv xs i y = some zs) : i < xs.length /\ xs.set i y = zs := by
 unfold fv at h
 cases hb : Nat.blt i xs.length with
 | false => rw [hb] at h; cases h
 | true => rw [hb] at h; cases h; exact ⟨Nat.le_of_ble_eq_true hb, rfl⟩
theorem dD.frozen {o : Oper} {e : E1} (l : List Nat) (hk : k ⟨e.av, e.rd, e.wr ++ bR s.hp l, e.nx⟩ = some r) (h : bB E.P C o (e.eff o.dst) ⟨s.fr.get, aG (aA s.hp) (bR s.hp l)⟩) : dD E C o s k r :=
 ⟨_, hk, OpW.frozen (e := e) l h.w⟩
theorem lO {E : Env} {C : Ctx} (bt : C.Γ = E.gam) (s : LSt) (hp : Hp) (x : Operand) : (⟨s.fr.get, hp⟩ : ASt).ev C x = s.ev E x := bC bt s x
def mw (E : Env) (t : TypeId) (x y : Operand) (s : LSt) (k : E1 -> Option R) : Option R :=
 match s.ev E x with
 | .op o p off =>
  (match aA s.hp o with
  | some (.box v) => bif (s.ev E y).plain then fg v p (s.ev E y) (fun off' v' => bif Nat.beq off' off && tyN E.P t (s.ev E y).asize then k ⟨.undef, [], [(o, .box v')], s.nx⟩ else none) else none
  | _ => none)
 | .oe o m i =>
  let l := (s.ev E y).osl
  let fz := bR s.hp l
  (match aA (fz ++ s.hp) o with
  | some (.arr T e m' false xs) =>
   bif Nat.beq m m' && tyN E.P t e.size then
    (match toD (fz ++ s.hp) (s.ev E y) e with
    | some z => (fv xs i z).bind fun zs => k ⟨.undef, l, [(o, .arr T e m false zs)] ++ fz, s.nx⟩
    | none => none)
   else none
  | _ => none)
 | _ => none
theorem DA (bt : C.Γ = E.gam) {t : TypeId} {x y : Operand} (h : mw E t x y s k = some r) : dD E C ⟨none, .store t x y, ty, pos, bT, gd⟩ s k r := by
 unfold mw at h
 have ex := bC bt s x
 have ey := bC bt s y
 split at h
 ·rename_i o p off hx
  rw [hx] at ex
  split at h
  ·rename_i v ho
   cases eg : (s.ev E y).plain with
   | false => rw [eg] at h; cases h
   | true =>
    rw [eg] at h
    obtain ⟨off', v', h1, h2⟩ := mu v p _ _ r h
    cases hb : Nat.beq off' off && tyN E.P t (s.ev E y).asize with
    | false => rw [hb] at h2; cases h2
    | true =>
     rw [hb] at h2
     simp only [ba] at hb
     obtain ⟨b, hty⟩ := z6 hb.2
     exact .of _ h2 (zL ex ey eg ho h1 (bj hb.1) hty)
  ·cases h
 ·rename_i o m i hx
  simp only at h
  split at h
  ·rename_i T e m' xs ho
   cases hb : Nat.beq m m' && tyN E.P t e.size with
   | false => rw [hb] at h; cases h
   | true =>
    rw [hb] at h
    simp only [ba] at hb
    have hm := bj hb.1
    subst hm
    obtain ⟨b, hty⟩ := z6 hb.2
    cases hz : toD (bR s.hp (s.ev E y).osl ++ s.hp) (s.ev E y) e with
    | none => simp only [ai, hz] at h; cases h
    | some z =>
     simp only [ai, hz] at h
     obtain ⟨zs, hzs, h⟩ := aS h
     obtain ⟨g1, rfl⟩ := HT hzs
     refine .frozen (e := ⟨.undef, (s.ev E y).osl, [(o, .arr T e m false (xs.set i z))], s.nx⟩) (s.ev E y).osl h ?_
     have hc := jr hz
     rw [a8] at hc ho
     exact xg (by rw [lO bt, hx]) ho g1 (by rw [lO bt]; exact hc) _ (by rw [lO bt]; exact fun _ h => h) hty
  ·cases h
 ·cases h
def XD (P : Program) (t : TypeId) (f : Nat) : Option Nat :=
 match P.underlying t with
 | some (.struct fs) => (match fs[f]? with | some fl => (match P.info? fl.type with | some i => bif Nat.beq i.size 0 then none else some fl.offset | none => none) | none => none)
 | _ => none
theorem sk {P : Program} {t : TypeId} {f o : Nat} (h : XD P t f = some o) : zH P t f o := by
 unfold XD at h
 split at h
 ·rename_i fs hfs
  split at h
  ·rename_i fl hfl
   split at h
   ·rename_i i hi
    cases hb : Nat.beq i.size 0 with
    | true => rw [hb] at h; cases h
    | false => rw [hb] at h; cases h; exact ⟨fs, fl, i, hfs, hfl, rfl, hi, iF hb⟩
   ·cases h
  ·cases h
 ·cases h
def Kw (P : Program) (t : TypeId) (f : Nat) : Option (Nat × Nat × Bool) :=
 match P.underlying t with
 | some (.struct fs) => (match fs[f]? with | some fl => (match Kr P fl.type with | some (n, b) => some (fl.offset, n, b) | none => none) | none => none)
 | _ => none
theorem HU {P : Program} {t : TypeId} {f o n : Nat} {b : Bool} (h : Kw P t f = some (o, n, b)) : ad3 P t f o n b := by
 unfold Kw at h
 split at h
 ·rename_i fs hfs
  split at h
  ·rename_i fl hfl
   split at h
   ·rename_i n' b' hi
    cases h
    exact ⟨fs, fl, hfs, hfl, rfl, sh hi⟩
   ·cases h
  ·cases h
 ·cases h
theorem xh {P : Program} {s : ASt} {t : TypeId} {x : Operand} {f kk off' o m i : Nat} {T : TypeId} {e Hq : Ty} {xs : List e.den} {z : e.den} {y' : Hq.den} (hx : s.ev C x = .oe o m i) (ho : s.hp o = some (.arr T e m true xs)) (hz : xs[i]? = some z)
  (hf : zH P t f kk) (hs : Sub (.d e z) [f] off' (.d Hq y')) (hoff : off' = kk) : bB P C ⟨dst, .fieldAddr t x f, ty, pos, bT, gd⟩ ⟨dst, .ip Hq y', [o], []⟩ s :=
 df [o] fun w im μ hp ρ h hk dK => by
  subst hoff
  obtain ⟨hr, cy⟩ := hx ▸ h x (by simp [Op.operands])
  have qE : hp o = some (.arr T e m true xs) := (hk o (by simp)).trans ho
  simp only [RepA] at hr
  obtain ⟨T', e', m', z', px, dS, hle, u, hc, h1, eg⟩ := hr
  rw [qE] at dS
  cases dS
  obtain ⟨b, cap, iQ, rfl⟩ := eg rfl
  have bJ : i < xs.length := (List.getElem?_eq_some_iff.1 hz).1
  rcases dK o _ qE with ⟨ad, bp, rfl⟩ | ⟨P0, _⟩ | ⟨_, b', cap', cs, bp, iC, _, _, hb, hl⟩
  ·simp at bJ
  ·cases P0
  ·obtain rfl : b' = b := by
    grind
   have hv : ρ x = .pointer (some ⟨b', i * e.size, none⟩) := by
    generalize ρ x = v at hc cy
    cases v <;> simp_all [Value.cells, aY, AV.isAgg]
   obtain ⟨hg, hgl⟩ := aR.get (aM.length e) hl hz
   have hca2 := hb.sub (i * e.size) e.size
   rw [Nat.zero_add] at hca2
   obtain ⟨c1, c2, c3, pw, Ho, hu⟩ := hs.sound (w := w) (im := im) (μ := μ) (hp := hp) _ (by simp only [RepA]; exact hg)
   rw [pw] at hca2
   have hca3 := (bX.append hca2).2
   rw [Ho] at hca3
   refine ⟨.pointer (some ⟨b', i * e.size + off', none⟩), w, ?_, rfl, rfl, rfl, rfl, ?_, rfl⟩
   ·simp only [execOp, hv, Sem.run_bind, lJ hf, Result.andThen_ok]; rfl
   ·simp only [RepA, Value.cells] at hu ⊢
    exact ⟨b', i * e.size + off', rfl, iC, c2, (bX.append hca3).1, hu⟩
def fJ (E : Env) (t : TypeId) (x : Operand) (f : Nat) (s : LSt) (k : E1 -> Option R) : Option R :=
 match XD E.P t f with
 | some kk =>
  (match s.ev E x with
  | .op o p off => k (s.pv (.op o (p ++ [f]) (off + kk)))
  | .ip τ y => fC τ y [f] (fun off' u => match u with | .d Hq y' => bif Nat.beq off' kk then k (s.pv (.ip Hq y')) else none | _ => none)
  | .oe o m i =>
   let fz := bR s.hp [o]
   (match aA (fz ++ s.hp) o with
   | some (.arr _ e m' true xs) =>
    bif Nat.beq m m' then
     (match xs[i]? with
     | some z => fC e z [f] (fun off' u => match u with | .d Hq y' => bif Nat.beq off' kk then k ⟨.ip Hq y', [o], fz, s.nx⟩ else none | _ => none)
     | none => none)
    else none
   | _ => none)
  | _ => none)
 | none => none
theorem sl (bt : C.Γ = E.gam) {t : TypeId} {x : Operand} {f : Nat} (h : fJ E t x f s k = some r) : dD E C ⟨dst, .fieldAddr t x f, ty, pos, bT, gd⟩ s k r := by
 unfold fJ at h
 have ex := bC bt s x
 split at h
 ·rename_i kk hf
  split at h
  ·rename_i o p off hx
   rw [hx] at ex
   exact .of _ h (zJ ex (sk hf) rfl rfl)
  ·rename_i τ y hx
   rw [hx] at ex
   obtain ⟨off', u, h1, h2⟩ := ja τ y [f] _ r h
   split at h2
   ·rename_i Hq y'
    cases hb : Nat.beq off' kk with
    | false => rw [hb] at h2; cases h2
    | true => rw [hb] at h2; exact .of _ h2 (zK ex (sk hf) h1 (bj hb))
   ·cases h2
  ·rename_i o m i hx
   simp only at h
   split at h
   ·rename_i T e m' xs ho
    cases hb : Nat.beq m m' with
    | false => rw [hb] at h; cases h
    | true =>
     rw [hb] at h
     have hm := bj hb
     subst hm
     simp only [ai] at h
     split at h
     ·rename_i z hz
      obtain ⟨off', u, h1, h2⟩ := ja e z [f] _ r h
      split at h2
      ·rename_i Hq y'
       cases hb : Nat.beq off' kk with
       | false => rw [hb] at h2; cases h2
       | true =>
        rw [hb] at h2
        refine .frozen (e := ⟨.ip Hq y', [o], [], s.nx⟩) [o] h2 ?_
        rw [a8] at ho
        exact xh (by rw [lO bt, hx]) ho hz (sk hf) h1 (bj hb)
      ·cases h2
     ·cases h
   ·cases h
  ·cases h
 ·cases h
def my (E : Env) (t : TypeId) (x : Operand) (f : Nat) (s : LSt) (k : E1 -> Option R) : Option R :=
 match Kw E.P t f with
 | some (kk, n, b) =>
  bif (s.ev E x).plain && (s.ev E x).isAgg then
   cU (s.ev E x) [f] (fun off' u => bif Nat.beq off' kk && (Nat.beq u.asize n && (bif u.isAgg then b else !b)) then k (s.pv u) else none)
  else none
 | none => none
theorem DB (bt : C.Γ = E.gam) {t : TypeId} {x : Operand} {f : Nat} (h : my E t x f s k = some r) : dD E C ⟨dst, .field t x f, ty, pos, bT, gd⟩ s k r := by
 unfold my at h
 have ex := bC bt s x
 split at h
 ·rename_i kk n b hf
  cases hb : (s.ev E x).plain && (s.ev E x).isAgg with
  | false => rw [hb] at h; cases h
  | true =>
   rw [hb] at h
   simp only [ba] at hb
   obtain ⟨off', u, h1, h2⟩ := ki _ [f] _ r h
   cases hc : Nat.beq off' kk && (Nat.beq u.asize n && (bif u.isAgg then b else !b)) with
   | false => rw [hc] at h2; cases h2
   | true =>
    rw [hc] at h2
    simp only [ba] at hc
    obtain ⟨c1, c2, c3⟩ := hc
    have hv := HU hf
    rw [← bj c2] at hv
    have : b = u.isAgg := by cases hq : u.isAgg <;> rw [hq] at c3 <;> cases b <;> simp_all
    rw [this] at hv
    exact .of _ h2 (HD ex hb.1 hb.2 h1 hv (bj c1))
 ·cases h
def fK (E : Env) (t : TypeId) (x y : Operand) (s : LSt) (k : E1 -> Option R) : Option R :=
 match s.ev E x, s.ev E y with
 | .d (.slice e) xs, .d (.int _) n => bif gh E.P t e.size then (idx xs n).bind fun z => k (s.pv (.ip e z)) else none
 | .ip (.arr m e) xs, .d (.int _) n => bif HK E.P t m e.size then (idx xs n).bind fun z => k (s.pv (.ip e z)) else none
 | .os o m, .d (.int _) n =>
  (match aA s.hp o with
  | some (.arr _ e m' _ xs) => bif Nat.beq m m' && gh E.P t e.size then (idx xs n).bind fun _ => k (s.pr (.oe o m n.toNat) [o]) else none
  | _ => none)
 | .ow o m j q, .d (.int _) n =>
  (match aA s.hp o with
  | some (.arr _ e m' _ xs) => bif Nat.beq m m' && (gh E.P t e.size && (decide (0 <= n) && decide (n < q))) then (xs[j + n.toNat]?).bind fun _ => k (s.pr (.oe o m (j + n.toNat)) [o]) else none
  | _ => none)
 | .op o p off, .d (.int _) n =>
  (match aA s.hp o with
  | some (.box v) => cU v p (fun _ u => match u with | .d (.arr m e) xs => bif HK E.P t m e.size then (idx xs n).bind fun _ => k (s.pr (.op o (p ++ [n.toNat]) (off + n.toNat * e.size)) [o]) else none | _ => none)
  | _ => none)
 | _, _ => none
theorem sm (bt : C.Γ = E.gam) {t : TypeId} {x y : Operand} (h : fK E t x y s k = some r) : dD E C ⟨dst, .indexAddr t x y, ty, pos, bT, gd⟩ s k r := by
 unfold fK at h
 have ex := bC bt s x
 have ey := bC bt s y
 split at h
 ·rename_i e xs kk n hx hy
  rw [hx] at ex; rw [hy] at ey
  cases hb : gh E.P t e.size with
  | false => rw [hb] at h; cases h
  | true =>
   rw [hb] at h
   obtain ⟨z, hz, h⟩ := aS h
   exact .of _ h (Dl ex ey (cQ hb) (fS hz).1 (fS hz).2)
 ·rename_i m e xs kk n hx hy
  rw [hx] at ex; rw [hy] at ey
  cases hb : HK E.P t m e.size with
  | false => rw [hb] at h; cases h
  | true =>
   rw [hb] at h
   obtain ⟨z, hz, h⟩ := aS h
   exact .of _ h (rW ex ey (vy hb) (fS hz).1 (fS hz).2)
 ·rename_i o m kk n hx hy
  rw [hx] at ex; rw [hy] at ey
  split at h
  ·rename_i T e m' fz xs ho
   cases hb : Nat.beq m m' && gh E.P t e.size with
   | false => rw [hb] at h; cases h
   | true =>
    rw [hb] at h
    simp only [ba] at hb
    have hm := bj hb.1
    subst hm
    obtain ⟨z, hz, h⟩ := aS h
    exact .of _ h (zO ex ho ey (cQ hb.2) (fS hz).1 (fS hz).2)
  ·cases h
 ·rename_i o m j q kk n hx hy
  rw [hx] at ex; rw [hy] at ey
  split at h
  ·rename_i T e m' fz xs ho
   cases hb : Nat.beq m m' && (gh E.P t e.size && (decide (0 <= n) && decide (n < q))) with
   | false => rw [hb] at h; cases h
   | true =>
    rw [hb] at h
    simp only [ba, decide_eq_true_eq] at hb
    have hm := bj hb.1
    subst hm
    obtain ⟨z, hz, h⟩ := aS h
    exact .of _ h (zP ex ho ey (cQ hb.2.1) hb.2.2.1 hb.2.2.2)
  ·cases h
 ·rename_i o p off kk n hx hy
  rw [hx] at ex; rw [hy] at ey
  split at h
  ·rename_i v ho
   obtain ⟨off1, u, h1, h2⟩ := ki v p _ r h
   split at h2
   ·rename_i m e xs
    cases hb : HK E.P t m e.size with
    | false => rw [hb] at h2; cases h2
    | true =>
     rw [hb] at h2
     obtain ⟨z, hz, h2⟩ := aS h2
     exact .of _ h2 (rX ex ho h1 ey (vy hb) (fS hz).1 (fS hz).2 rfl rfl)
   ·cases h2
  ·cases h
 ·cases h
def qn (P : Program) (t : TypeId) : Bool := match P.underlying t with | some .string => true | _ => false
theorem nE {P : Program} {t : TypeId} (h : qn P t = true) : P.underlying t = some .string := by
 grind [qn]
def HV (E : Env) (t : TypeId) (m : Nat) (e : Ty) : Bool :=
 match E.P.underlying t with
 | some (.array m' T) => Nat.beq m' m && si E.P T e.size e.isAgg && (match lk E.ty t with | some τ => decide (τ = .arr m e) | none => false)
 | _ => false
theorem Ab (hE : E.OK) {t : TypeId} {m : Nat} {e : Ty} (h : HV E t m e = true) : ArE E.P t m e := by
 unfold HV at h
 split at h
 ·rename_i m' T hT
  simp only [ba] at h
  obtain ⟨⟨h1, h2⟩, h3⟩ := h
  split at h3
  ·rename_i τ hτ
   have := aU h3
   subst this
   obtain ⟨i, z, g1, g2, g3, g4, g5⟩ := (hE.ty _ (fh hτ)).info
   rw [← bj h1] at *
   exact ⟨⟨T, hT, kj h2⟩, ⟨i, z, g1, g4, g5⟩⟩
  ·cases h3
 ·cases h
def mz (E : Env) (t : TypeId) (x y : Operand) (s : LSt) (k : E1 -> Option R) : Option R :=
 match s.ev E x, s.ev E y with
 | .d .str l, .d (.int _) n => bif qn E.P t then (zU l n).bind fun z => k (s.pv (.d (.int .u8) z)) else none
 | .d (.arr m e) xs, .d (.int _) n => bif HV E t m e then (idx xs n).bind fun z => k (s.pv (.d e z)) else none
 | _, _ => none
theorem DC (hE : E.OK) (bt : C.Γ = E.gam) {t : TypeId} {x y : Operand} (h : mz E t x y s k = some r) : dD E C ⟨dst, .index t x y, ty, pos, bT, gd⟩ s k r := by
 unfold mz at h
 have ex := bC bt s x
 have ey := bC bt s y
 split at h
 ·rename_i l kk n hx hy
  rw [hx] at ex; rw [hy] at ey
  cases hb : qn E.P t with
  | false => rw [hb] at h; cases h
  | true =>
   rw [hb] at h
   obtain ⟨z, hz, h⟩ := aS h
   obtain ⟨h0, b, ll, rfl⟩ := HI hz
   exact .of _ h (xc ex ey (nE hb) h0 ll)
 ·rename_i m e xs kk n hx hy
  rw [hx] at ex; rw [hy] at ey
  cases hb : HV E t m e with
  | false => rw [hb] at h; cases h
  | true =>
   rw [hb] at h
   obtain ⟨z, hz, h⟩ := aS h
   exact .of _ h (xf ex ey (Ab hE hb) hz)
 ·cases h
def lz (E : Env) (s : LSt) (x : Option Operand) (dflt : Int) : Option Int :=
 match x with
 | none => some dflt
 | some x => (match s.ev E x with | .d (.int _) n => some n | _ => none)
theorem fi (bt : C.Γ = E.gam) {x : Option Operand} {dflt : Nat} {z : Int} (h : lz E s x dflt = some z) (h0 : 0 <= z) (hp : Hp) : fq C ⟨s.fr.get, hp⟩ x dflt z.toNat := by
 unfold lz at h
 split at h
 ·cases h; simp [fq]
 ·rename_i y
  split at h
  ·rename_i kk n hn
   cases h
   exact ⟨kk, z, by rw [lO bt]; exact hn, h0, rfl⟩
  ·cases h
def pJ (E : Env) (s : LSt) (x : Operand) : Bool := match s.ev E x with | .d (.int .i64) n => n == 0 | _ => false
theorem qo (bt : C.Γ = E.gam) {x : Operand} (h : pJ E s x = true) : s.toA.ev C x = .d (.int .i64) 0 := by
 grind [pJ, bC]
theorem uI {P : Program} {s : ASt} {t : TypeId} {x : Operand} {lo hi : Option Operand} {esz : Nat} (hx : s.ev C x = .nils) (ht : SlT P t esz) (mV : fq C s lo 0 0) (qd : fq C s hi 0 0) :
  bB P C ⟨dst, .slice t x lo hi none, ty, pos, bT, gd⟩ ⟨dst, .nils, [], []⟩ s :=
 aW fun w im μ hp ρ hr => by
  obtain ⟨hA, cy⟩ := hx ▸ hr x (by simp [Op.operands])
  simp only [RepA] at hA
  have hv := aL hA cy
  obtain ⟨et, i, hu, fc, fP⟩ := ht
  have hb := ez (P := P) w (len := 0) (cap := 0) (da mV (fun o ho => hr o (by subst ho; simp [Op.operands]))) (da qd (fun o ho => hr o (by subst ho; cases lo <;> simp [Op.operands]))) (Nat.le_refl _) (Nat.le_refl _) true
  refine ⟨.slice none 0 0, ?_, ⟨by simp only [RepA, Value.cells], rfl⟩⟩
  simp [execOp, hv, Instr.sliceAt, Instr.slice, run_underlying hu, hb, sizeOf, typeInfo, fc]
theorem sn {P : Program} {s : ASt} {t : TypeId} {x : Operand} {hi : Option Operand} {o n kk : Nat} {T : TypeId} {e : Ty} {xs : List e.den} (hx : s.ev C x = .os o n) (ho : s.hp o = some (.arr T e n false xs)) (ht : SlT P t e.size)
  (qd : fq C s hi xs.length kk) (hk : kk <= xs.length) : bB P C ⟨dst, .slice t x none hi none, ty, pos, bT, gd⟩ ⟨dst, .os o (n + 1), [], [(o, .arr T e (n + 1) false (xs.take kk))]⟩ s := by
 intro s1 fj fA im μ a w fc hd
 have rG : s1.ev C x = .os o n := (fj x (by simp [Op.operands])).trans hx
 have uB : s1.hp o = some (.arr T e n false xs) := (fA o (.inr (by simp))).trans ho
 have hh1 : fq C s1 hi xs.length kk := by
  cases hi with
  | none => exact qd
  | some y =>
   obtain ⟨k, z, h1, h2, h3⟩ := qd
   exact ⟨k, z, (fj y (by simp [Op.operands])).trans h1, h2, h3⟩
 obtain ⟨hr, cy⟩ := rG ▸ fc.ev x
 simp only [RepA] at hr
 obtain ⟨T', e', m', z', px, dS, hle, u, hc, h1, eg⟩ := hr
 rw [uB] at dS
 cases dS
 have hpl2 := eg rfl
 clear eg
 have hv : a.eval x = u := by
  have : (a.eval x).cells.toList = [u] := hc
  generalize a.eval x = v at this cy
  cases v <;> simp_all [Value.cells, aY, AV.isAgg]
 obtain ⟨et, i, hu, lB, fP⟩ := ht
 have bJ : (xs.take kk).length = kk := by rw [List.length_take]; omega
 have key : ∃ v', (execOp a.eval ⟨dst, .slice t x none hi none, ty, pos, bT, gd⟩).run P w = .ok (.value v') w /\ v'.oneCell' = true /\ cn (μ o) kk v' /\
   ((∃ a, μ o = .nil a /\ xs.take kk = []) \/ (false = false /\ ∃ b cap cells, μ o = .row b cap /\ w.heap[b]? = some (.cells cells T (0, 0)) /\ (xs.take kk).length <= cap /\ cap <= maxLen /\ cells.size = cap * e.size /\ aR (aM w im e) (cells.toList.take ((xs.take kk).length * e.size)) (xs.take kk))) := by
  rcases fc.obj o _ uB with ⟨ad, bp, rfl⟩ | ⟨_, b, cap, cells, bp, hb, hcap, hmax, hsz', hl⟩ | ⟨hz, _⟩
  ·simp only [List.length_nil, Nat.le_zero] at hk
   subst hk
   rw [bp] at hpl2 ⊢
   simp only [cn] at hpl2
   subst hpl2
   have hb := ez (P := P) w (lo := none) (len := 0) (cap := 0) rfl (da hh1 (fun o _ => fc.ev o)) (Nat.le_refl _) (Nat.le_refl _) true
   refine ⟨.slice ad 0 0, ?_, rfl, rfl, .inl ⟨ad, rfl, rfl⟩⟩
   simp [execOp, hv, Instr.sliceAt, Instr.slice, run_underlying hu, hb, sizeOf, typeInfo, lB, fP]
  ·rw [bp] at hpl2 ⊢
   simp only [cn] at hpl2
   subst hpl2
   have ll := ez (P := P) w (lo := none) (len := xs.length) (cap := cap) rfl (da hh1 (fun o _ => fc.ev o)) (Nat.zero_le kk) (by omega) true
   refine ⟨.slice (some ⟨b, 0, none⟩) kk cap, ?_, rfl, rfl, .inr ⟨rfl, b, cap, cells, rfl, hb, by omega, hmax, hsz', ?_⟩⟩
   ·by_cases hc0 : cap = 0
    ·rw [hc0] at ll hv ⊢
     simp [execOp, hv, Instr.sliceAt, Instr.slice, run_underlying hu, ll, sizeOf, typeInfo, lB, fP]
    ·simp [execOp, hv, Instr.sliceAt, Instr.slice, run_underlying hu, ll, sizeOf, typeInfo, lB, fP, hc0, cT]
   ·have := aR.take (aM.length e) hl kk
    rw [List.take_take] at this
    rw [bJ]
    rw [Nat.min_eq_left (Nat.mul_le_mul_right _ hk)] at this
    exact this
  ·cases hz
 obtain ⟨v', g1, g2, g3, g4⟩ := key
 have fO : ∀ ob, s1.hp o = some ob -> cA ob (μ o) (.arr T e (n + 1) false (xs.take kk)) (μ o) := by
  intro ob dK
  rw [uB] at dK
  obtain rfl := Option.some.inj dK
  exact ⟨_, _, _, rfl, .inr (Nat.lt_succ_self _)⟩
 have hw : jk w w (μ o).blk := ⟨rfl, rfl, rfl, Nat.le_refl _, fun _ _ _ => rfl⟩
 have ev := fc.evObj fO hw
 refine ⟨v', w, im, _, .inl g1, fc.obj1 fO hw (fun b hb => ⟨(fc.sep o b hb).2.1, .inl hb⟩) ?_ hd ?_⟩
 ·rcases g4 with ⟨b, h2, h3⟩ | ⟨h0, b, cap, cells, h2, h3, h4, h5, h6, h7⟩
  ·exact .inl ⟨b, h2, h3⟩
  ·exact .inr (.inl ⟨rfl, b, cap, cells, h2, h3, h4, h5, h6, aR.mono (aM.mono ev.fim ev.fheap e) _ _ h7⟩)
 ·refine bo.ofA ?_ (by cases v' <;> simp_all [Value.oneCell', aY, AV.isAgg])
  simp only [RepA]
  exact ⟨T, e, _, _, _, dz _ _ _, Nat.le_refl _, v', by rw [(mo g2).1], g2, fun _ => by rw [bE, bJ]; exact g3⟩
theorem xi {P : Program} {s : ASt} {t : TypeId} {x : Operand} {lo hi : Option Operand} {o n l h : Nat} {T : TypeId} {e : Ty} {fz : Bool} {xs : List e.den} (hx : s.ev C x = .os o n) (ho : s.hp o = some (.arr T e n fz xs)) (ht : SlT P t e.size)
  (mV : fq C s lo 0 l) (qd : fq C s hi xs.length h) (h1 : l < h) (h2 : h <= xs.length) : bB P C ⟨dst, .slice t x lo hi none, ty, pos, bT, gd⟩ ⟨dst, .ow o n l (h - l), [o], []⟩ s :=
 df [o] fun w im μ hp ρ hr hk dK => by
  obtain ⟨hA, cy⟩ := hx ▸ hr x (by simp [Op.operands])
  have qE : hp o = some (.arr T e n fz xs) := (hk o (by simp)).trans ho
  simp only [RepA] at hA
  obtain ⟨T', e', m', z', px, dS, hle, u, hc, hu1, eg⟩ := hA
  rw [qE] at dS
  cases dS
  have hpl2 := eg rfl
  clear eg
  obtain ⟨et, i, hu, fc, fP⟩ := ht
  rcases (dK o _ qE).arr with ⟨ad, bp, rfl⟩ | ⟨b, cap, cs, bp, hcap, _⟩
  ·grind
  ·have hpl3 : u = .slice (some ⟨b, 0, none⟩) xs.length cap := by rcases bp with bp | bp <;> rw [bp] at hpl2 <;> exact hpl2
   subst hpl3
   have hv := aL hc cy
   have hb := ez (P := P) w (len := xs.length) (cap := cap) (da mV (fun o ho => hr o (by subst ho; simp [Op.operands]))) (da qd (fun o ho => hr o (by subst ho; cases lo <;> simp [Op.operands]))) (Nat.le_of_lt h1) (by omega) true
   have j2 : ¬ cap = l := by omega
   refine ⟨.slice (some ⟨b, l * e.size, none⟩) (h - l) (cap - l), w, ?_, rfl, rfl, rfl, rfl, ⟨?_, rfl⟩⟩
   ·simp [execOp, hv, Instr.sliceAt, Instr.slice, run_underlying hu, hb, sizeOf, typeInfo, fc, fP, j2, cT]
   ·simp only [RepA, Value.cells]
    exact ⟨T, e, n, fz, xs, qE, Nat.le_refl _, _, rfl, rfl, fun _ => ⟨b, cap, bp, rfl⟩⟩
theorem Ac {P : Program} {s : ASt} {t : TypeId} {x : Operand} {lo hi : Option Operand} {o n j q l h : Nat} {T : TypeId} {e : Ty} {fz : Bool} {xs : List e.den} (hx : s.ev C x = .ow o n j q) (ho : s.hp o = some (.arr T e n fz xs)) (ht : SlT P t e.size)
  (mV : fq C s lo 0 l) (qd : fq C s hi q h) (h1 : l < h) (h2 : j + h <= xs.length) : bB P C ⟨dst, .slice t x lo hi none, ty, pos, bT, gd⟩ ⟨dst, .ow o n (j + l) (h - l), [o], []⟩ s :=
 df [o] fun w im μ hp ρ hr hk dK => by
  obtain ⟨hA, cy⟩ := hx ▸ hr x (by simp [Op.operands])
  have qE : hp o = some (.arr T e n fz xs) := (hk o (by simp)).trans ho
  simp only [RepA] at hA
  obtain ⟨T', e', m', z', px, dS, hle, u, hc, hu1, eg⟩ := hA
  rw [qE] at dS
  cases dS
  obtain ⟨b, cap, iQ, rfl⟩ := eg rfl
  obtain ⟨et, i, hu, fc, fP⟩ := ht
  rcases (dK o _ qE).arr with ⟨ad, bp, rfl⟩ | ⟨b', cap', cs, bp, hcap, _⟩
  ·grind
  ·obtain ⟨rfl, rfl⟩ : b' = b /\ cap' = cap := by
    grind
   have hv := aL hc cy
   have hb := ez (P := P) w (len := q) (cap := cap' - j) (da mV (fun o ho => hr o (by subst ho; simp [Op.operands]))) (da qd (fun o ho => hr o (by subst ho; cases lo <;> simp [Op.operands]))) (Nat.le_of_lt h1) (by omega) true
   have j2 : ¬ cap' - j = l := by omega
   refine ⟨.slice (some ⟨b', (j + l) * e.size, none⟩) (h - l) (cap' - (j + l)), w, ?_, rfl, rfl, rfl, rfl, ⟨?_, rfl⟩⟩
   ·simp [execOp, hv, Instr.sliceAt, Instr.slice, run_underlying hu, hb, sizeOf, typeInfo, fc, fP, j2, cT, Nat.add_mul, Nat.sub_sub]
   ·simp only [RepA, Value.cells]
    exact ⟨T, e, n, fz, xs, qE, Nat.le_refl _, _, rfl, rfl, fun _ => ⟨b', cap', bp, rfl⟩⟩
def win (len : Nat) (l h : Int) : Option (Nat × Nat) := bif decide (0 <= l) && (decide (l < h) && decide (h <= len)) then some (l.toNat, (h - l).toNat) else none
theorem Ad {len : Nat} {l h : Int} {p : Nat × Nat} (hw : win len l h = some p) : 0 <= l /\ l < h /\ h <= len /\ p = (l.toNat, h.toNat - l.toNat) := by
 grind [win]
def XE (pos : String) : Bool := pos == "linear.go:45" || pos == "move.go:92" || pos == "slices.go:528"
def Qn (pos : String) : Bool := pos == "slices.go:428"
def kl (E : Env) (t : TypeId) (x : Operand) (lo : Option Operand) (hh mm : Operand) (s : LSt) (k : E1 -> Option R) : Option R :=
 let fz := bR s.hp (s.ev E x).osl
 match HJ (fz ++ s.hp) (s.ev E x) none with
 | some ⟨e, _⟩ =>
  bif gh E.P t e.size then
   (match toD (fz ++ s.hp) (s.ev E x) (.slice e), lz E s lo 0, lz E s (some hh) 0, lz E s (some mm) 0 with
   | some ys, some a, some b, some m => bif decide (0 <= m) && decide (b <= m) && decide (m <= ys.length) then (cut ys a b).bind fun zs => k ⟨.d (.slice e) zs, (s.ev E x).osl, fz, s.nx⟩ else none
   | _, _, _, _ => none)
  else none
 | none => none
theorem Ae (bt : C.Γ = E.gam) {t : TypeId} {x hh mm : Operand} {lo : Option Operand} (h : kl E t x lo hh mm s k = some r) : dD E C ⟨dst, .slice t x lo (some hh) (some mm), ty, pos, bT, gd⟩ s k r := by
 unfold kl at h
 simp only at h
 split at h
 ·rename_i e xs hs
  cases hb : gh E.P t e.size with
  | false => rw [hb] at h; cases h
  | true =>
   rw [hb] at h
   simp only [ai] at h
   split at h
   ·rename_i ys a b m hy ha ll hm2
    cases hc : decide (0 <= m) && decide (b <= m) && decide (m <= (ys.length : Int)) with
    | false => rw [hc] at h; cases h
    | true =>
     rw [hc] at h
     simp only [ba, decide_eq_true_eq] at hc
     simp only [ai] at h
     obtain ⟨zs, hz, h⟩ := aS h
     obtain ⟨c1, c2, c3, c4, rfl⟩ := lM hz
     refine .frozen (e := ⟨.d (.slice e) ((ys.take b.toNat).drop a.toNat), (s.ev E x).osl, [], s.nx⟩) (s.ev E x).osl h ?_
     have hcd := jr hy
     rw [a8] at hcd
     exact Aa (by rw [lO bt]; exact hcd) _ (by rw [lO bt]; exact fun _ h => h) (cQ hb) (fi bt (dflt := 0) ha c1 _) (fi bt (dflt := 0) ll c3 _) (fi bt (dflt := 0) hm2 hc.1.1 _) (by omega) (by omega) c2 c4
   ·cases h
 ·cases h
def mA (E : Env) (tr kp : Bool) (t : TypeId) (x : Operand) (lo hi mx : Option Operand) (s : LSt) (k : E1 -> Option R) : Option R :=
 match mx with
 | none =>
  (match s.ev E x with
  | .nils => bif (match E.P.underlying t with | some (.slice e) => (match E.P.info? e with | some _ => true | none => false) | _ => false) then
    (match lz E s lo 0 with
    | some a => (match lz E s hi 0 with | some b => bif (a == 0) && (b == 0) then k (s.pv .nils) else none | none => none)
    | none => none)
   else none
  | .d .str l =>
   bif qn E.P t then
    (match lz E s lo 0 with
    | some a => (match lz E s hi l.length with | some b => (cut l a b).bind fun zs => k (s.pv (.d .str zs)) | none => none)
    | none => none)
   else none
  | .d (.slice e) xs =>
   bif gh E.P t e.size then
    (match lz E s lo 0 with
    | some a => (match lz E s hi xs.length with | some b => (cut xs a b).bind fun zs => k (s.pv (.d (.slice e) zs)) | none => none)
    | none => none)
   else none
  | .os o n =>
   bif tr then
    (match lo with
    | some _ => none
    | none =>
     (match aA s.hp o with
     | some (.arr T e m false xs) =>
      bif Nat.beq n m && gh E.P t e.size then
       (match lz E s hi xs.length with
       | some b => (cut xs 0 b).bind fun zs => k ⟨.os o (n + 1), [], [(o, .arr T e (n + 1) false zs)], s.nx⟩
       | none => none)
      else none
     | _ => none))
   else bif kp then
    (match aA s.hp o with
    | some (.arr _ e m _ xs) =>
     bif Nat.beq n m && gh E.P t e.size then
      (match lz E s lo 0 with
      | some a => (match lz E s hi xs.length with | some b => (win xs.length a b).bind fun p => k (s.pr (.ow o n p.1 p.2) [o]) | none => none)
      | none => none)
     else none
    | _ => none)
   else
   let fz := bR s.hp [o]
   (match aA (fz ++ s.hp) o with
   | some (.arr _ e m true xs) =>
    bif Nat.beq n m && gh E.P t e.size then
     (match lz E s lo 0 with
     | some a => (match lz E s hi xs.length with | some b => (cut xs a b).bind fun zs => k ⟨.d (.slice e) zs, [o], fz, s.nx⟩ | none => none)
     | none => none)
    else none
   | _ => none)
  | .ow o n j q =>
   (match aA s.hp o with
   | some (.arr _ e m _ xs) =>
    bif Nat.beq n m && gh E.P t e.size then
     (match lz E s lo 0 with
     | some a => (match lz E s hi q with | some b => (win q a b).bind fun p => bif Nat.ble (j + q) xs.length then k (s.pr (.ow o n (j + p.1) p.2) [o]) else none | none => none)
     | none => none)
    else none
   | _ => none)
  | _ => none)
 | some m =>
  (match hi with
  | none => none
  | some h =>
   bif pJ E s h && pJ E s m then
    (match lo with
    | some _ => none
    | none =>
     (match E.P.underlying t with
     | some (.slice T) => (match HJ s.hp (s.ev E x) (lk E.ty T) with | some ⟨e, _⟩ => bif gh E.P t e.size then k (s.pr .emp (s.ev E x).objs) else none | none => none)
     | _ => none))
   else kl E t x lo h m s k)
theorem DD (bt : C.Γ = E.gam) {tr kp : Bool} {t : TypeId} {x : Operand} {lo hi mx : Option Operand} (h : mA E tr kp t x lo hi mx s k = some r) : dD E C ⟨dst, .slice t x lo hi mx, ty, pos, bT, gd⟩ s k r := by
 unfold mA at h
 have ex := bC bt s x
 split at h
 ·split at h
  ·rename_i hx
   rw [hx] at ex
   cases hb : (match E.P.underlying t with | some (.slice e) => (match E.P.info? e with | some _ => true | none => false) | _ => false) with
   | false => rw [hb] at h; cases h
   | true =>
    rw [hb] at h
    simp only [ai] at h
    split at h
    ·rename_i a ha
     split at h
     ·rename_i b ll
      cases hab : (a == 0) && (b == 0) with
      | false => rw [hab] at h; cases h
      | true =>
       rw [hab] at h
       simp only [ba, beq_iff_eq] at hab
       obtain ⟨rfl, rfl⟩ := hab
       split at hb
       ·rename_i e he
        split at hb
        ·rename_i i fc
         exact .of _ h (uI ex ⟨e, i, he, fc, rfl⟩ (fi bt (dflt := 0) ha (Int.le_refl 0) _) (fi bt (dflt := 0) ll (Int.le_refl 0) _))
        ·cases hb
       ·cases hb
     ·cases h
    ·cases h
  ·rename_i l hx
   rw [hx] at ex
   cases hb : qn E.P t with
   | false => rw [hb] at h; cases h
   | true =>
    rw [hb] at h
    simp only [ai] at h
    split at h
    ·rename_i a ha
     split at h
     ·rename_i b ll
      obtain ⟨zs, hz, h⟩ := aS h
      obtain ⟨c1, c2, c3, c4, rfl⟩ := lM hz
      exact .of _ h (wY ex (nE hb) (fi bt (dflt := 0) ha c1 _) (fi bt ll c3 _) c2 c4)
     ·cases h
    ·cases h
  ·rename_i e xs hx
   rw [hx] at ex
   cases hb : gh E.P t e.size with
   | false => rw [hb] at h; cases h
   | true =>
    rw [hb] at h
    simp only [ai] at h
    split at h
    ·rename_i a ha
     split at h
     ·rename_i b ll
      obtain ⟨zs, hz, h⟩ := aS h
      obtain ⟨c1, c2, c3, c4, rfl⟩ := lM hz
      exact .of _ h (Dn ex (cQ hb) (fi bt (dflt := 0) ha c1 _) (fi bt ll c3 _) c2 c4)
     ·cases h
    ·cases h
  ·rename_i o n hx
   cases htr : tr with
   | true =>
    rw [htr] at h
    simp only [ai] at h
    rw [hx] at ex
    split at h
    ·cases h
    ·split at h
     ·rename_i T e m xs ho
      cases hb : Nat.beq n m && gh E.P t e.size with
      | false => rw [hb] at h; cases h
      | true =>
       rw [hb] at h
       simp only [ba] at hb
       have hm := bj hb.1
       subst hm
       simp only [ai] at h
       split at h
       ·rename_i b ll
        obtain ⟨zs, hz, h⟩ := aS h
        obtain ⟨c1, c2, c3, c4, rfl⟩ := lM hz
        have := sn (dst := dst) (ty := ty) (pos := pos) (bT := bT) (gd := gd) ex ho (cQ hb.2) (fi bt ll c3 _) c4
        rw [show (xs.take b.toNat).drop (0 : Int).toNat = xs.take b.toNat from rfl] at h
        exact .of _ h this
       ·cases h
     ·cases h
   | false =>
   rw [htr] at h
   simp only [ax] at h
   cases hkp : kp with
   | true =>
    rw [hkp] at h
    simp only [ai] at h
    rw [hx] at ex
    split at h
    ·rename_i T e m fz xs ho
     cases hb : Nat.beq n m && gh E.P t e.size with
     | false => rw [hb] at h; cases h
     | true =>
      rw [hb] at h
      simp only [ba] at hb
      have hm := bj hb.1
      subst hm
      simp only [ai] at h
      split at h
      ·rename_i a ha
       split at h
       ·rename_i b ll
        obtain ⟨p, hz, h⟩ := aS h
        obtain ⟨c1, c2, c3, rfl⟩ := Ad hz
        exact .of _ h (xi ex ho (cQ hb.2) (fi bt (dflt := 0) ha c1 _) (fi bt ll (by omega) _) (by omega) (by omega))
       ·cases h
      ·cases h
    ·cases h
   | false =>
   rw [hkp] at h
   simp only [ax] at h
   split at h
   ·rename_i T e m xs ho
    cases hb : Nat.beq n m && gh E.P t e.size with
    | false => rw [hb] at h; cases h
    | true =>
     rw [hb] at h
     simp only [ba] at hb
     have hm := bj hb.1
     subst hm
     simp only [ai] at h
     split at h
     ·rename_i a ha
      split at h
      ·rename_i b ll
       obtain ⟨zs, hz, h⟩ := aS h
       obtain ⟨c1, c2, c3, c4, rfl⟩ := lM hz
       refine .frozen (e := ⟨.d (.slice e) ((xs.take b.toNat).drop a.toNat), [o], [], s.nx⟩) [o] h ?_
       rw [a8] at ho
       exact Dz (by rw [lO bt, hx]; exact .os ho) _ (by rw [lO bt, hx]; exact fun _ h => h) (cQ hb.2) (fi bt (dflt := 0) ha c1 _) (fi bt ll c3 _) c2 c4
      ·cases h
     ·cases h
   ·cases h
  ·rename_i o n j q hx
   rw [hx] at ex
   split at h
   ·rename_i T e m fz xs ho
    cases hb : Nat.beq n m && gh E.P t e.size with
    | false => rw [hb] at h; cases h
    | true =>
     rw [hb] at h
     simp only [ba] at hb
     have hm := bj hb.1
     subst hm
     simp only [ai] at h
     split at h
     ·rename_i a ha
      split at h
      ·rename_i b ll
       obtain ⟨p, hz, h⟩ := aS h
       obtain ⟨c1, c2, c3, rfl⟩ := Ad hz
       cases hb3 : Nat.ble (j + q) xs.length with
       | false => rw [hb3] at h; cases h
       | true =>
        rw [hb3] at h
        have := Nat.le_of_ble_eq_true hb3
        exact .of _ h (Ac ex ho (cQ hb.2) (fi bt (dflt := 0) ha c1 _) (fi bt ll (by omega) _) (by omega) (by omega))
      ·cases h
     ·cases h
   ·cases h
  ·cases h
 ·rename_i m
  split at h
  ·cases h
  ·rename_i hh
   cases hb : pJ E s hh && pJ E s m with
   | false => rw [hb] at h; exact Ae bt h
   | true =>
    rw [hb] at h
    simp only [ai] at h
    simp only [ba] at hb
    split at h
    ·cases h
    ·split at h
     ·rename_i T hT
      split at h
      ·rename_i e xs hs
       cases hb3 : gh E.P t e.size with
       | false => rw [hb3] at h; cases h
       | true =>
        rw [hb3] at h
        exact .of _ h (wZ ex (mq hs) (cQ hb3) rfl (qo bt hb.1) (qo bt hb.2))
      ·cases h
     ·cases h
def xj : Operand -> Operand -> Bool
 | .tmp a, .tmp b => Nat.beq a b
 | _, _ => false
theorem Af {x y : Operand} (h : xj x y = true) : x = y := by
 unfold xj at h
 grind [bj]
def pK (E : Env) (t : TypeId) (x y : Operand) (s : LSt) (k : E1 -> Option R) : Option R :=
 match HL E t, s.ev E x, s.ev E y with
 | some (T, e), .d (.int _) n, .d (.int _) n' => bif xj x y || n == n' then (mk n (kg e)).bind fun l => lr s.hp s.nx (k ⟨.os s.nx 0, [], [(s.nx, .arr T e 0 false l)], s.nx + 1⟩) else none
 | _, _, _ => none
theorem HW (hE : E.OK) (bt : C.Γ = E.gam) {d : Nat} {t : TypeId} {x y : Operand} (h : pK E t x y s k = some r) : dD E C ⟨some d, .makeSlice t x y, ty, pos, bT, gd⟩ s k r := by
 unfold pK at h
 have ex := bC bt s x
 have ey := bC bt s y
 split at h
 ·rename_i T e k1 n k2 n' hT hx hy
  rw [hx] at ex; rw [hy] at ey
  cases hb : xj x y || n == n' with
  | false => rw [hb] at h; cases h
  | true =>
   rw [hb] at h
   obtain ⟨l, hl, h⟩ := aS h
   obtain ⟨h0, h⟩ := gH h
   obtain ⟨m1, m2, rfl⟩ := Qd hl
   have hn : n' = n := by
    grind [Af]
   subst hn
   exact .of _ h (w7 (js hE hT) h0 ex ey m1 m2)
 ·cases h
def Fc (e e' : Ty) (xs : List e.den) : Option (List e'.den) := if h : e = e' then some (h ▸ xs) else none
theorem sq {P : Program} {s : ASt} {x : Operand} {t : TypeId} {T : TypeId} (hx : s.ev C x = .nils \/ s.ev C x = .emp) (ht : P.underlying t = some (.slice T)) :
  bB P C ⟨dst, .call ⟨.builtin .cap, #[x], #[t]⟩, ty, pos, bT, gd⟩ ⟨dst, .d (.int .i64) 0, [], []⟩ s :=
 aW fun w im μ hp ρ h => by
  obtain ⟨ad, hv⟩ : ∃ ad, ρ x = .slice ad 0 0 := by
   have hrx := h x (by simp [Op.operands, Call.operands])
   rcases hx with hx | hx <;> rw [hx] at hrx <;> obtain ⟨hr, cy⟩ := hrx <;> simp only [RepA] at hr
   ·exact ⟨none, aL hr cy⟩
   ·obtain ⟨ad, hr⟩ := hr; exact ⟨ad, aL hr cy⟩
  refine ⟨.int .i64 0, ?_, ⟨by simp [RepA, aM, Value.cells], rfl⟩⟩
  simp [execOp, resolve, invoke, builtin, hv, Builtin.cap_, run_underlying ht, goInt]
theorem qI {P : Program} {s : ASt} {d : Tmp} {o : Nat} {t T tn : TypeId} {x y : Operand} {e : Ty} {kn kq : IntKind} {n : Int} (ht : ElT P t T e) (htn : P.underlying tn = some (.int kn)) (h0 : s.hp o = none) (hx : s.ev C x = .nils) (hy : s.ev C y = .d (.int kq) n)
  (hn0 : 0 < n) (hn : n <= lim) : bB P C ⟨some d, .call ⟨.builtin .append, #[x, y], #[t, tn]⟩, ty, pos, bT, gd⟩ ⟨some d, .os o 0, [], [(o, .arr T e 0 false (List.replicate n.toNat (kg e)))]⟩ s := by
 intro s1 fj fA im μ a w hi hd
 have rG : s1.ev C x = .nils := (fj x (by simp [Op.operands, Call.operands])).trans hx
 have EY : s1.hp o = none := (fA o (.inr (by simp))).trans h0
 have e2 := eu (((fj y (by simp [Op.operands, Call.operands])).trans hy) ▸ hi.ev y)
 obtain ⟨hr, cy⟩ := rG ▸ hi.ev x
 simp only [RepA] at hr
 have hv := aL hr cy
 obtain ⟨i, z, iE, lB, wO, hz1, JW⟩ := ht.info
 obtain ⟨m, rfl⟩ := Int.eq_ofNat_of_zero_le (Int.le_of_lt hn0)
 have hm : m <= 4294967296 := by unfold lim at hn; omega
 have hm0 : 0 < m := by omega
 have hzsz : z.cells.size = e.size := by rw [← Array.length_toList, JW, (bZ (default : World) (fun _ => True) e).length]
 have hbytes : m * i.bytes <= 4294967296 * 4096 := Nat.mul_le_mul hm wO
 have hrun := Go.Lib.run_append_grow_zeros (P := P) w t tn ty T i z kq kn ht.und htn iE hz1 none 0 0 [] (run_firstCells_none _ _ _ _ _) m hm0 (by rw [lB]; exact ht.pos) (by omega) (by omega) (by omega) (growslice_fits (by omega) (by rw [Nat.zero_add]; omega))
 simp only [Nat.zero_add] at hrun
 have uA := grownCap_ge w m 0 T
 have Hr := grownCap_le_maxLen w m 0 T (by unfold maxLen; omega)
 have hzc := j4 JW m
 have hfl : (Builtin.zeroCells z.cells m).toList = (List.replicate m (fe e)).flatten := by
  rw [← hzc]; unfold Builtin.zeroCells; rw [hzsz]
 have hrep := aR.replicate (bZ w im e) m
 have hlen := hrep.length (aM.length e)
 have hnew := hi.newArr (w1 := w.drew) rfl rfl rfl rfl (hd d rfl) EY (cells := (#[] ++ Builtin.zeroCells z.cells m ++ Builtin.zeroCells z.cells (grownCap w m 0 T - m))) (T := T) (e := e) (xs := List.replicate m (kg e)) (cap := grownCap w m 0 T) (by simpa using uA) Hr (by
   simp only [Array.size_append, size_zeroCells, hzsz, ← Nat.add_mul, Array.size_empty, Nat.zero_add]
   congr 1
   omega) (by
   simp only [Array.toList_append, hfl, List.nil_append]
   rw [← hlen, List.take_left]
   exact hrep)
 rw [List.length_replicate] at hnew
 refine ⟨_, _, im, _, .inl ?_, hnew⟩
 simp only [execOp, resolve, invoke, builtin, Sem.run_bind, Sem.run_pure, Result.andThen_ok, List.map_toArray, List.map_cons, List.map_nil, hv, e2, hrun]
def vE (E : Env) (t : TypeId) (x : Operand) (s : LSt) (k : E1 -> Option R) : Option R :=
 match E.P.underlying t with
 | some (.slice _) => (match s.ev E x with | .nils => k (s.pv (.d (.int .i64) 0)) | .emp => k (s.pv (.d (.int .i64) 0)) | _ => none)
 | _ => none
theorem Kx (bt : C.Γ = E.gam) {t : TypeId} {x : Operand} (h : vE E t x s k = some r) : dD E C ⟨dst, .call ⟨.builtin .cap, #[x], #[t]⟩, ty, pos, bT, gd⟩ s k r := by
 unfold vE at h
 have ex := bC bt s x
 split at h
 ·rename_i T hT
  split at h
  ·rename_i hx; exact .of _ h (sq (.inl (ex.trans hx)) hT)
  ·rename_i hx; exact .of _ h (sq (.inr (ex.trans hx)) hT)
  ·cases h
 ·cases h
def jb (E : Env) (t tn : TypeId) (x y : Operand) (s : LSt) (k : E1 -> Option R) : Option R :=
 match E.P.underlying tn with
 | some (.int _) =>
  (match HL E t with
  | some (T, e) =>
   (match s.ev E x, s.ev E y with
   | .nils, .d (.int _) n => bif decide (0 < n) && decide (n <= lim) then lr s.hp s.nx (k ⟨.os s.nx 0, [], [(s.nx, .arr T e 0 false (List.replicate n.toNat (kg e)))], s.nx + 1⟩) else none
   | _, _ => none)
  | none => none)
 | _ => none
theorem xk (hE : E.OK) (bt : C.Γ = E.gam) {d : Tmp} {t tn : TypeId} {x y : Operand} (h : jb E t tn x y s k = some r) : dD E C ⟨some d, .call ⟨.builtin .append, #[x, y], #[t, tn]⟩, ty, pos, bT, gd⟩ s k r := by
 unfold jb at h
 have ex := bC bt s x
 have ey := bC bt s y
 split at h
 ·rename_i kn hn
  split at h
  ·rename_i T e hT
   split at h
   ·rename_i kk n hx hy
    rw [hx] at ex; rw [hy] at ey
    cases hb : decide (0 < n) && decide (n <= (lim : Int)) with
    | false => rw [hb] at h; cases h
    | true =>
     rw [hb] at h
     simp only [ba, decide_eq_true_eq] at hb
     obtain ⟨h0, h⟩ := gH h
     exact .of _ h (qI (js hE hT) hn h0 ex ey hb.1 hb.2)
   ·cases h
  ·cases h
 ·cases h
def km (E : Env) (t t2 : TypeId) (x y : Operand) (s : LSt) (k : E1 -> Option R) : Option R :=
 bif Nat.beq t t2 then
  (match HL E t with
  | some (T, e) =>
   (match Qk s.hp (s.ev E y) e with
   | some ys =>
    (match s.ev E x with
    | .nils => (app [] ys).bind fun zs => lr s.hp s.nx (k ⟨.os s.nx 0, (s.ev E y).objs, [(s.nx, .arr T e 0 false zs)], s.nx + 1⟩)
    | .emp => (app [] ys).bind fun zs => lr s.hp s.nx (k ⟨.os s.nx 0, (s.ev E y).objs, [(s.nx, .arr T e 0 false zs)], s.nx + 1⟩)
    | .os o n =>
     (match aA s.hp o with
     | some (.arr T' e' m false xs) =>
      bif Nat.beq T T' && Nat.beq n m then
       (match Fc e' e xs with
       | some xs => (app xs ys).bind fun zs => k ⟨.os o (n + 1), (s.ev E y).objs, [(o, .arr T e (n + 1) false zs)], s.nx⟩
       | none => none)
      else none
     | _ => none)
    | _ => none)
   | none => none)
  | none => none)
 else none
theorem Ag (hE : E.OK) (bt : C.Γ = E.gam) {t t2 : TypeId} {x y : Operand} (h : km E t t2 x y s k = some r) : dD E C ⟨dst, .call ⟨.builtin .append, #[x, y], #[t, t2]⟩, ty, pos, bT, gd⟩ s k r := by
 unfold km at h
 have ex := bC bt s x
 have ey := bC bt s y
 cases hb : Nat.beq t t2 with
 | false => rw [hb] at h; cases h
 | true =>
  rw [hb] at h
  have := bj hb
  subst this
  simp only [ai] at h
  split at h
  ·rename_i T e hT
   split at h
   ·rename_i ys J1
    have hsrc := vx J1
    split at h
    ·rename_i hx
     rw [hx] at ex
     obtain ⟨zs, hz, h⟩ := aS h
     obtain ⟨h0, h⟩ := gH h
     obtain ⟨a1, rfl⟩ := r8 hz
     exact .of _ h (ni (js hE hT) h0 (.inl ex) ey hsrc (by simpa using a1))
    ·rename_i hx
     rw [hx] at ex
     obtain ⟨zs, hz, h⟩ := aS h
     obtain ⟨h0, h⟩ := gH h
     obtain ⟨a1, rfl⟩ := r8 hz
     exact .of _ h (ni (js hE hT) h0 (.inr ex) ey hsrc (by simpa using a1))
    ·rename_i o n hx
     rw [hx] at ex
     split at h
     ·rename_i T' e' m xs ho
      cases ll : Nat.beq T T' && Nat.beq n m with
      | false => rw [ll] at h; cases h
      | true =>
       rw [ll] at h
       simp only [ba] at ll
       have h1 := bj ll.1
       have h2 := bj ll.2
       subst h1 h2
       simp only [ai] at h
       unfold Fc at h
       by_cases he : e' = e
       ·subst he
        simp only [dite_true] at h
        obtain ⟨zs, hz, h⟩ := aS h
        obtain ⟨a1, rfl⟩ := r8 hz
        exact .of _ h (w8 (js hE hT) ex ho ey hsrc a1)
       grind
     ·cases h
    ·cases h
   ·cases h
  ·cases h
def vF (E : Env) (t : TypeId) (x : Operand) (s : LSt) (k : E1 -> Option R) : Option R :=
 match s.ev E x with
 | .d .str l => bif qn E.P t then k (s.pv (.d (.int .i64) (l.length : Int))) else none
 | a =>
  (match E.P.underlying t with
  | some (.slice T) => (match HJ s.hp a (lk E.ty T) with | some ⟨e, xs⟩ => bif gh E.P t e.size then k (s.pr (.d (.int .i64) (xs.length : Int)) a.objs) else none | none => none)
  | _ => none)
theorem Ky (bt : C.Γ = E.gam) {t : TypeId} {x : Operand} (h : vF E t x s k = some r) : dD E C ⟨dst, .call ⟨.builtin .len, #[x], #[t]⟩, ty, pos, bT, gd⟩ s k r := by
 unfold vF at h
 have ex := bC bt s x
 split at h
 ·rename_i l hx
  rw [hx] at ex
  cases hb : qn E.P t with
  | false => rw [hb] at h; cases h
  | true => rw [hb] at h; exact .of _ h (Dk ex (nE hb))
 ·split at h
  ·rename_i T hT
   split at h
   ·rename_i e xs hs
    cases hb : gh E.P t e.size with
    | false => rw [hb] at h; cases h
    | true => rw [hb] at h; exact .of _ h (wX ex (mq hs) (cQ hb))
   ·cases h
  ·cases h
def vG (E : Env) (x y : Operand) (s : LSt) (k : E1 -> Option R) : Option R :=
 match s.ev E x, s.ev E y with
 | .d (.int k1) a, .d (.int _) b => k (s.pv (.d (.int k1) (if b > a then b else a)))
 | _, _ => none
theorem Kz (bt : C.Γ = E.gam) {ts : Array TypeId} {x y : Operand} (h : vG E x y s k = some r) : dD E C ⟨dst, .call ⟨.builtin .max, #[x, y], ts⟩, ty, pos, bT, gd⟩ s k r := by
 unfold vG at h
 have ex := bC bt s x
 have ey := bC bt s y
 split at h
 ·rename_i k1 a k2 b hx hy
  rw [hx] at ex; rw [hy] at ey
  exact .of _ h (Xz ex ey)
 ·cases h
def vH (E : Env) (x y : Operand) (s : LSt) (k : E1 -> Option R) : Option R :=
 match s.ev E x, s.ev E y with
 | .d (.int k1) a, .d (.int _) b => k (s.pv (.d (.int k1) (if b < a then b else a)))
 | _, _ => none
theorem KA (bt : C.Γ = E.gam) {ts : Array TypeId} {x y : Operand} (h : vH E x y s k = some r) : dD E C ⟨dst, .call ⟨.builtin .min, #[x, y], ts⟩, ty, pos, bT, gd⟩ s k r := by
 unfold vH at h
 have ex := bC bt s x
 have ey := bC bt s y
 split at h
 ·rename_i k1 a k2 b hx hy
  rw [hx] at ex; rw [hy] at ey
  exact .of _ h (XA ex ey)
 ·cases h
def rb (P : Program) : List Field -> Option (List (Nat × Nat))
 | [] => some []
 | f :: l => match P.info? f.type with | some i => (match rb P l with | some r => some ((f.offset, i.size) :: r) | none => none) | none => none
theorem lP {P : Program} : ∀ {l : List Field} {ps : List (Nat × Nat)}, rb P l = some ps -> l.length = ps.length /\ ∀ (i : Nat) (f : Field) (p : Nat × Nat), l[i]? = some f -> ps[i]? = some p -> f.offset = p.1 /\ ∃ inf, P.info? f.type = some inf /\ inf.size = p.2
 | [], ps, h => by cases h; exact ⟨rfl, fun i f p hf => by simp at hf⟩
 | f :: l, ps, h => by
  simp only [rb] at h
  split at h
  ·rename_i i hi
   split at h
   ·rename_i rr hr
    cases h
    obtain ⟨h1, h2⟩ := lP hr
    grind
   ·cases h
  ·cases h
def bld (E : Env) (s : LSt) (ps : List (Nat × Nat)) : List (Nat × Operand) -> AV -> (AV -> Option R) -> Option R
 | [], v, k => k v
 | (i, x) :: l, v, k =>
  bif (s.ev E x).plain then
   (match ps[i]? with
   | some (off, sz) => bif Nat.beq (s.ev E x).asize sz then fg v [i] (s.ev E x) (fun off' v' => bif Nat.beq off' off then bld E s ps l v' k else none) else none
   | none => none)
  else none
theorem Ah (bt : C.Γ = E.gam) {ps : List (Nat × Nat)} : ∀ {l : List (Nat × Operand)} {v : AV} {k : AV -> Option R}, bld E s ps l v k = some r -> ∃ v', pE C s.toA ps l v v' /\ k v' = some r
 | [], v, k, h => ⟨v, .nil, h⟩
 | (i, x) :: l, v, k, h => by
  simp only [bld] at h
  cases hp : (s.ev E x).plain with
  | false => rw [hp] at h; cases h
  | true =>
   rw [hp] at h
   simp only [ai] at h
   split at h
   ·rename_i off sz PG
    cases hz : Nat.beq (s.ev E x).asize sz with
    | false => rw [hz] at h; cases h
    | true =>
     rw [hz] at h
     obtain ⟨off', v', h1, h2⟩ := mu v [i] _ _ r h
     cases hb : Nat.beq off' off with
     | false => rw [hb] at h2; cases h2
     | true =>
      rw [hb] at h2
      obtain ⟨v'', h3, h4⟩ := Ah bt h2
      exact ⟨v'', .cons (bC bt s x) hp PG (bj hz) h1 (bj hb) h3, h4⟩
   ·cases h
def xl (E : Env) (s : LSt) (e : Ty) (n : Nat) : List (Nat × Operand) -> Option (List (Nat × e.den))
 | [] => some []
 | (i, x) :: l => bif Nat.blt i n then (match s.ev E x with | .d τ y => (if h : τ = e then (match xl E s e n l with | some r => some ((i, h ▸ y) :: r) | none => none) else none) | _ => none) else none
theorem qp {e : Ty} {n : Nat} : ∀ {l : List (Nat × Operand)} {ys : List (Nat × e.den)}, xl E s e n l = some ys -> l.length = ys.length /\ ∀ (k i : Nat) (x : Operand), l[k]? = some (i, x) -> ∃ y, ys[k]? = some (i, y) /\ s.ev E x = .d e y /\ i < n
 | [], ys, h => by cases h; exact ⟨rfl, fun k i x hk => by simp at hk⟩
 | (i, x) :: l, ys, h => by
  simp only [xl] at h
  cases hb : Nat.blt i n with
  | false => rw [hb] at h; cases h
  | true =>
   rw [hb] at h
   simp only [ai] at h
   split at h
   ·rename_i τ y hy
    split at h
    ·rename_i he
     subst he
     split at h
     ·rename_i rr hr
      cases h
      obtain ⟨h1, h2⟩ := qp hr
      refine ⟨by simp [h1], fun k j u hk => ?_⟩
      cases k with
      | zero =>
       simp_all
      | succ k => exact h2 k j u (by simpa using hk)
     ·cases h
    ·cases h
   ·cases h
def mB (E : Env) (t : TypeId) (parts : Array (Nat × Operand)) (s : LSt) (k : E1 -> Option R) : Option R :=
 match E.P.underlying t, lk E.ty t with
 | some (.struct fs), some τ =>
  (match rb E.P fs.toList with
  | some ps => bld E s ps parts.toList (n8 τ) (fun v => bif v.isAgg then k (s.pv v) else none)
  | none => none)
 | some (.array _ _), some (.arr n e) => bif HV E t n e then (match xl E s e n parts.toList with | some ys => k (s.pv (.d (.arr n e) (jm (List.replicate n (kg e)) ys))) | none => none) else none
 | _, _ => none
theorem DE (hE : E.OK) (bt : C.Γ = E.gam) {t : TypeId} {parts : Array (Nat × Operand)} (h : mB E t parts s k = some r) : dD E C ⟨dst, .build t parts, ty, pos, bT, gd⟩ s k r := by
 unfold mB at h
 split at h
 ·rename_i fs τ hu hτ
  split at h
  ·rename_i ps PG
   obtain ⟨v, h1, h2⟩ := Ah bt h
   obtain ⟨i, z, g1, g2, g3, g4, g5⟩ := (hE.ty _ (fh hτ)).info
   cases hv : v.isAgg with
   | false => rw [hv] at h2; cases h2
   | true =>
    rw [hv] at h2
    exact .of _ h2 (Kp ⟨fs, hu, (lP PG).1, (lP PG).2⟩ ⟨i, z, g1, g4, g5⟩ h1 hv)
  ·cases h
 ·rename_i T m n e hu hτ
  cases hb : HV E t n e with
  | false => rw [hb] at h; cases h
  | true =>
   rw [hb] at h
   simp only [ai] at h
   split at h
   ·rename_i ys J1
    obtain ⟨h1, h2⟩ := qp J1
    exact .of _ h (zX (Ab hE hb) h1 fun k i x hk => by
     obtain ⟨y, g1, g2, g3⟩ := h2 k i x hk
     have ex := bC bt s x
     exact ⟨y, g1, by rw [← g2]; exact ex, g3⟩)
   ·cases h
 ·cases h
def xm (E : Env) (hp : LHp) (s : LSt) (e : Ty) (n : Nat) : List (Nat × Operand) -> Option (List (Nat × e.den))
 | [] => some []
 | (i, x) :: l => bif Nat.blt i n then (match toD hp (s.ev E x) e with | some y => (match xm E hp s e n l with | some r => some ((i, y) :: r) | none => none) | none => none) else none
theorem qq {hp : LHp} {e : Ty} {n : Nat} : ∀ {l : List (Nat × Operand)} {ys : List (Nat × e.den)}, xm E hp s e n l = some ys -> l.length = ys.length /\ ∀ (k i : Nat) (x : Operand), l[k]? = some (i, x) -> ∃ y, ys[k]? = some (i, y) /\ ir (aA hp) (s.ev E x) e y /\ i < n
 | [], ys, h => by cases h; exact ⟨rfl, fun k i x hk => by simp at hk⟩
 | (i, x) :: l, ys, h => by
  simp only [xm] at h
  cases hb : Nat.blt i n with
  | false => rw [hb] at h; cases h
  | true =>
   rw [hb] at h
   simp only [ai] at h
   split at h
   ·rename_i y hy
    split at h
    ·rename_i rr hr
     cases h
     obtain ⟨h1, h2⟩ := qq hr
     refine ⟨by simp [h1], fun k j x' hk => ?_⟩
     cases k with
     | zero =>
      simp only [List.getElem?_cons_zero, Option.some.injEq, Prod.mk.injEq] at hk
      simp_all [jr, Nat.le_of_ble_eq_true]
     | succ k => simpa using h2 k j x' (by simpa using hk)
    ·cases h
   ·cases h
def nF (E : Env) (s : LSt) : List (Nat × Operand) -> List Nat
 | [] => []
 | (_, x) :: l => (s.ev E x).osl ++ nF E s l
theorem su {x : Operand} : ∀ {l : List (Nat × Operand)} {k i : Nat}, l[k]? = some (i, x) -> ∀ o ∈ (s.ev E x).osl, o ∈ nF E s l
 | [], _, _, h, _, _ => by simp at h
 | (j, y) :: l, 0, i, h, o, ho => by
  simp only [List.getElem?_cons_zero, Option.some.injEq, Prod.mk.injEq] at h
  grind [nF]
 | (j, y) :: l, k + 1, i, h, o, ho => by
  simp only [nF, List.mem_append]
  exact .inr (su (by simpa using h) o ho)
def vI (E : Env) (t : TypeId) (n : Nat) (parts : Array (Nat × Operand)) (s : LSt) (k : E1 -> Option R) : Option R :=
 match HL E t with
 | some (T, e) =>
  bif Nat.beq n 0 && parts.toList.isEmpty then k (s.pv .emp) else
   let ol := nF E s parts.toList
   let fz := bR s.hp ol
   (match xm E (fz ++ s.hp) s e n parts.toList with
   | some ys => bif Nat.ble (n * e.size) (2 ^ 24) then lr (fz ++ s.hp) s.nx (k ⟨.os s.nx 0, ol, [(s.nx, .arr T e 0 false (jm (List.replicate n (kg e)) ys))] ++ fz, s.nx + 1⟩) else none
   | none => none)
 | none => none
theorem KB (hE : E.OK) (bt : C.Γ = E.gam) {d : Nat} {t : TypeId} {n : Nat} {parts : Array (Nat × Operand)} (h : vI E t n parts s k = some r) : dD E C ⟨some d, .buildSlice t n parts, ty, pos, bT, gd⟩ s k r := by
 unfold vI at h
 split at h
 ·rename_i T e hT
  cases hb0 : Nat.beq n 0 && parts.toList.isEmpty with
  | true =>
   rw [hb0] at h
   simp only [ba] at hb0
   have hn := bj hb0.1
   subst hn
   have hp : parts = #[] := by apply Array.ext'; simpa using hb0.2
   subst hp
   exact .of _ h (Qj (js hE hT))
  | false =>
   rw [hb0] at h
   simp only at h
   split at h
   ·rename_i ys J1
    cases hb : Nat.ble (n * e.size) (2 ^ 24) with
    | false => rw [hb] at h; cases h
    | true =>
     rw [hb] at h
     obtain ⟨h0, h⟩ := gH h
     obtain ⟨g1, g2⟩ := qq J1
     refine .frozen (e := ⟨.os s.nx 0, nF E s parts.toList, [(s.nx, .arr T e 0 false (jm (List.replicate n (kg e)) ys))], s.nx + 1⟩) (nF E s parts.toList) h ?_
     rw [a8] at h0 g2
     exact sg _ (js hE hT) h0 (Nat.le_of_ble_eq_true hb) g1 (fun k i x hk => by
      obtain ⟨y, y1, y2, y3⟩ := g2 k i x hk
      exact ⟨y, y1, by rw [lO bt]; exact y2, by rw [lO bt]; exact su hk, y3⟩) rfl
   ·cases h
 ·cases h
def jd (E : Env) (x : Operand) (i : Nat) (s : LSt) (k : E1 -> Option R) : Option R :=
 match s.ev E x with
 | .tup l => (match l[i]? with | some a => k (s.pv a) | none => none)
 | _ => none
theorem xn (bt : C.Γ = E.gam) {x : Operand} {i : Nat} (h : jd E x i s k = some r) : dD E C ⟨dst, .extract x i, ty, pos, bT, gd⟩ s k r := by
 unfold jd at h
 have ex := bC bt s x
 split at h
 ·rename_i l hx
  rw [hx] at ex
  split at h
  ·rename_i a ha
   exact .of _ h (Dj ex ha)
  ·cases h
 ·cases h
def evs (E : Env) (s : LSt) : List Operand -> List AV
 | [] => []
 | x :: l => s.ev E x :: evs E s l
theorem kV (bt : C.Γ = E.gam) : ∀ l : List Operand, l.map (s.toA.ev C) = evs E s l
 | [] => rfl
 | x :: l => by simp only [List.map_cons, evs, bC bt, kV bt l]
def KD (l : List AV) : Bool := l.all AV.plain
def pL (E : Env) (f : Fn) (first cap : Array Operand) (s : LSt) (k : E1 -> Option R) : Option R :=
 match first.toList with
 | [] => bif KD (evs E s cap.toList) then k (s.pv (.fn f [] (evs E s cap.toList))) else none
 | _ => none
theorem HX (bt : C.Γ = E.gam) {f : Fn} {first cap : Array Operand} (h : pL E f first cap s k = some r) : dD E C ⟨dst, .makeFunc f first cap, ty, pos, bT, gd⟩ s k r := by
 unfold pL at h
 split at h
 ·rename_i hf
  have : first = #[] := by apply Array.ext'; simpa using hf
  subst this
  cases hb : KD (evs E s cap.toList) with
  | false => rw [hb] at h; cases h
  | true =>
   rw [hb] at h
   exact .of _ h (zV (kV bt _) (fun a ha => List.all_eq_true.1 hb a ha))
 ·cases h
def HY (P : Program) (t : TypeId) : Bool := match P.underlying t with | some (.interface _) => false | some _ => true | none => false
theorem vJ {P : Program} {t : TypeId} (h : HY P t = true) : Xy P t := by
 unfold HY at h
 split at h
 ·cases h
 ·rename_i d hd hn
  exact ⟨d, hn, by split <;> simp_all⟩
 ·cases h
def mC (E : Env) (t : TypeId) (x : Operand) (s : LSt) (k : E1 -> Option R) : Option R :=
 bif (s.ev E x).plain && HY E.P t then k (s.pv (.iface t (s.ev E x))) else none
theorem DF (bt : C.Γ = E.gam) {t : TypeId} {x : Operand} (h : mC E t x s k = some r) : dD E C ⟨dst, .makeInterface t x, ty, pos, bT, gd⟩ s k r := by
 unfold mC at h
 cases hb : (s.ev E x).plain && HY E.P t with
 | false => rw [hb] at h; cases h
 | true =>
  rw [hb] at h
  simp only [ba] at hb
  exact .of _ h (xe (bC bt s x) hb.1 (vJ hb.2))
def ko (E : Env) (x : Operand) (t : TypeId) (ok : Bool) (s : LSt) (k : E1 -> Option R) : Option R :=
 match s.ev E x, ok with
 | .iface t' (.d (.int kk) n), true => bif Nat.beq t' t && HY E.P t then k (s.pv (.tup [.d (.int kk) n, .d .bool true])) else none
 | _, _ => none
theorem Ai (bt : C.Γ = E.gam) {x : Operand} {xt t : TypeId} {ok : Bool} (h : ko E x t ok s k = some r) : dD E C ⟨dst, .typeAssert x xt t ok, ty, pos, bT, gd⟩ s k r := by
 unfold ko at h
 have ex := bC bt s x
 split at h
 ·rename_i t' kk n hx
  rw [hx] at ex
  cases hb : Nat.beq t' t && HY E.P t with
  | false => rw [hb] at h; cases h
  | true =>
   rw [hb] at h
   simp only [ba] at hb
   have := bj hb.1
   subst this
   exact .of _ h (uH ex (vJ hb.2))
 ·cases h
theorem sv {P : Program} {s : ASt} {x : Operand} {o m i : Nat} {T : TypeId} {e : Ty} {fz : Bool} {xs : List e.den} (hx : s.ev C x = .oe o m i) (ho : s.hp o = some (.arr T e m fz xs)) : bB P C ⟨dst, .nilCheck x, ty, pos, bT, gd⟩ ⟨dst, .oe o m i, [o], []⟩ s :=
 df [o] fun w im μ hp ρ h hk dK => by
  have hr0 : bo w im μ hp (.oe o m i) (ρ x) := hx ▸ h x (by simp [Op.operands])
  have C2 := hr0
  obtain ⟨hr, cy⟩ := C2
  have qE : hp o = some (.arr T e m fz xs) := (hk o (by simp)).trans ho
  simp only [RepA] at hr
  obtain ⟨T', e', m', z', px, dS, hle, u, hc, h1, eg⟩ := hr
  rw [qE] at dS
  cases dS
  obtain ⟨b, cap, iQ, rfl⟩ := eg rfl
  have hv : ρ x = .pointer (some ⟨b, i * e.size, none⟩) := by
   generalize ρ x = v at hc cy
   cases v <;> simp_all [Value.cells, aY, AV.isAgg]
  exact ⟨ρ x, w, by simp [execOp, hv], rfl, rfl, rfl, rfl, hr0⟩
def vK (E : Env) (x : Operand) (s : LSt) (k : E1 -> Option R) : Option R :=
 match s.ev E x with
 | .op o p off => k (s.pv (.op o p off))
 | .ip τ y => k (s.pv (.ip τ y))
 | .oe o m i => (match aA s.hp o with | some (.arr _ _ m' _ _) => bif Nat.beq m m' then k (s.pr (.oe o m i) [o]) else none | _ => none)
 | _ => none
theorem KE (bt : C.Γ = E.gam) {x : Operand} (h : vK E x s k = some r) : dD E C ⟨dst, .nilCheck x, ty, pos, bT, gd⟩ s k r := by
 unfold vK at h
 have ex := bC bt s x
 split at h
 ·rename_i o p off hx
  rw [hx] at ex
  exact .of _ h (r9 ex)
 ·rename_i τ y hx
  rw [hx] at ex
  exact .of _ h (sd ex)
 ·rename_i o m i hx
  rw [hx] at ex
  split at h
  ·rename_i T e m' fz xs ho
   cases hb : Nat.beq m m' with
   | false => rw [hb] at h; cases h
   | true =>
    rw [hb] at h
    have := bj hb
    subst this
    exact .of _ h (sv ex ho)
  ·cases h
 ·cases h
end
end Go.Vm
