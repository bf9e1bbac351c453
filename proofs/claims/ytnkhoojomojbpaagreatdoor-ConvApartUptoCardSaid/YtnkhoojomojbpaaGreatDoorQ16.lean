/- Part O of the abstract machine: the executor's other operations. -/
import Derived.Test.YtnkhoojomojbpaaGreatDoorQ15
import Derived.Lib.AppendZerosOnto
namespace Go.Vm
variable {R : Type}
section
variable {P : Program} {C : Ctx} {s : ASt}
variable {dst : Option Tmp} {ty : TypeId} {pos : String} {cc : Array Edge} {gd : Option (Nat × Bool)}
theorem DN {t : TypeId} {x : Operand} {lo hi : Option Operand} {e : Ty} {xs : List e.den} {l h : Nat} (hx : iJ s.hp (s.ev C x) (.slice e) xs) (J0 : List Nat) (C4 : ∀ k ∈ (s.ev C x).osl, k ∈ J0) (ht : SlT P t e.size) (mf : fH C s lo 0 l) (qM : fH C s hi xs.length h)
  (h1 : l <= h) (h2 : h <= xs.length) : bL P C ⟨dst, .slice t x lo hi none, ty, pos, cc, gd⟩ ⟨dst, .d (.slice e) ((xs.take h).drop l), J0, []⟩ s :=
 dC J0 fun w im μ hp ρ hr hk ef => by
  have hxc : iJ hp (s.ev C x) (.slice e) xs := hx.congr (fun k h => hk k (C4 k h))
  obtain ⟨hA0, cY⟩ := (hr x (by simp [Op.operands])).toA hxc.plain
  rw [hxc.agg] at cY
  have hA := hxc.sound ef _ hA0
  simp only [aM] at hA
  obtain ⟨ad, cap, hc, h3, h4, E9, h5⟩ := hA
  have hv := aL hc cY
  obtain ⟨et, i, hu, fq, gk⟩ := ht
  have hb := fb (P := P) w (len := xs.length) (cap := cap) (du mf (fun o ho => hr o (by subst ho; simp [Op.operands]))) (du qM (fun o ho => hr o (by subst ho; cases lo <;> simp [Op.operands]))) h1 (by omega) true
  refine ⟨.slice (if cap = l then ad else ad.map (·.add (l * e.size))) (h - l) (cap - l), w, ?_, rfl, rfl, rfl, rfl, ⟨?_, rfl⟩⟩
  ·simp [execOp, hv, Instr.sliceAt, Instr.slice, run_underlying hu, hb, sizeOf, typeInfo, fq, gk]
  ·simp only [RepA, aM, Value.cells]
   have hl : ((xs.take h).drop l).length = h - l := by rw [List.length_drop, List.length_take]; omega
   refine ⟨_, cap - l, by rw [hl], by omega, by omega, ?_, ?_⟩
   ·split
    ·intro hn; rw [hn] at E9; have := E9 rfl; omega
    ·intro hn
     rw [Option.map_eq_none_iff] at hn
     have := E9 hn; omega
   ·by_cases Ka : cap = l
    ·have : (xs.take h).drop l = [] := by
      apply List.eq_nil_of_length_eq_zero; omega
     rw [if_pos Ka, this]
     cases ad with
     | none => rfl
     | some ad => exact .inl rfl
    ·rw [if_neg Ka]
     cases ad with
     | none => have h5' : xs = [] := h5; rw [h5']; simp [lE]
     | some ad =>
      rcases h5 with h5 | ⟨hs, iR, cs, h6, h7⟩
      ·rw [h5]; exact .inl (by simp)
      ·obtain ⟨b, off, sp⟩ := ad
       simp only at hs iR h6
       subst hs
       simp only [Option.map_some, df, lE]
       refine .inr ⟨trivial, iR, (cs.take (h * e.size)).drop (l * e.size), ?_, aU.drop (aM.length e) (aU.take (aM.length e) h7 h) l⟩
       intro j v hj
       rw [List.getElem?_drop, List.getElem?_take] at hj
       split at hj
       ·have := h6 _ _ hj; rw [Nat.add_assoc]; exact this
       ·cases hj
theorem As (w : World) {lo hi mx : Option Value} {len cap l h m : Nat} (mf : match lo with | none => l = 0 | some v => ∃ k z, v = .int k z /\ 0 <= z /\ z.toNat = l) (qM : match hi with | none => h = 0 | some v => ∃ k z, v = .int k z /\ 0 <= z /\ z.toNat = h)
  (hmx : match mx with | none => m = 0 | some v => ∃ k z, v = .int k z /\ 0 <= z /\ z.toNat = m) (h1 : l <= h) (h2 : h <= m) (h3 : m <= cap) : hi.isSome = true -> mx.isSome = true -> (Instr.sliceBounds true len cap lo hi mx).run P w = .ok (l, h, m) w := by
 intro zD rn
 cases hi with
 | none => cases zD
 | some v =>
  cases mx with
  | none => cases rn
  | some u =>
   obtain ⟨k, z, rfl, hz, rfl⟩ := qM
   obtain ⟨k2, z2, rfl, JZ, rfl⟩ := hmx
   cases lo with
   | none =>
    simp only at mf; subst mf
    simp [Instr.sliceBounds, bV w JZ (show z2 <= (cap : Int) by omega), bV w hz (show z <= ((z2.toNat : Nat) : Int) by omega)]
   | some u' =>
    obtain ⟨k', z', rfl, PX, rfl⟩ := mf
    simp [Instr.sliceBounds, bV w JZ (show z2 <= (cap : Int) by omega), bV w hz (show z <= ((z2.toNat : Nat) : Int) by omega), bV w PX (show z' <= ((z.toNat : Nat) : Int) by omega)]
theorem Au {t : TypeId} {x hh mm : Operand} {lo : Option Operand} {m : Nat} {e : Ty} {xs : List e.den} {l h : Nat} (hx : iJ s.hp (s.ev C x) (.slice e) xs) (J0 : List Nat) (C4 : ∀ k ∈ (s.ev C x).osl, k ∈ J0) (ht : SlT P t e.size) (mf : fH C s lo 0 l) (qM : fH C s (some hh) 0 h) (hmm : fH C s (some mm) 0 m) (h2m : h <= m) (hml : m <= xs.length)
  (h1 : l <= h) (h2 : h <= xs.length) : bL P C ⟨dst, .slice t x lo (some hh) (some mm), ty, pos, cc, gd⟩ ⟨dst, .d (.slice e) ((xs.take h).drop l), J0, []⟩ s :=
 dC J0 fun w im μ hp ρ hr hk ef => by
  have hxc : iJ hp (s.ev C x) (.slice e) xs := hx.congr (fun k h => hk k (C4 k h))
  obtain ⟨hA0, cY⟩ := (hr x (by simp [Op.operands])).toA hxc.plain
  rw [hxc.agg] at cY
  have hA := hxc.sound ef _ hA0
  simp only [aM] at hA
  obtain ⟨ad, cap, hc, h3, h4, E9, h5⟩ := hA
  have hv := aL hc cY
  obtain ⟨et, i, hu, fq, gk⟩ := ht
  have hb := As (P := P) w (lo := lo.map ρ) (hi := some (ρ hh)) (mx := some (ρ mm)) (len := xs.length) (cap := cap) (du mf (fun o ho => hr o (by subst ho; simp [Op.operands]))) (du qM (fun o ho => hr o (by cases ho; cases lo <;> simp [Op.operands]))) (du hmm (fun o ho => hr o (by cases ho; cases lo <;> simp [Op.operands]))) h1 h2m (by omega : m <= cap) rfl rfl
  refine ⟨.slice (if m = l then ad else ad.map (·.add (l * e.size))) (h - l) (m - l), w, ?_, rfl, rfl, rfl, rfl, ⟨?_, rfl⟩⟩
  ·simp [execOp, hv, Instr.sliceAt, Instr.slice, run_underlying hu, hb, sizeOf, typeInfo, fq, gk]
  ·simp only [RepA, aM, Value.cells]
   have hl : ((xs.take h).drop l).length = h - l := by rw [List.length_drop, List.length_take]; omega
   refine ⟨_, m - l, by rw [hl], by omega, by omega, ?_, ?_⟩
   ·split
    ·intro hn; rw [hn] at E9; have := E9 rfl; omega
    ·intro hn
     rw [Option.map_eq_none_iff] at hn
     have := E9 hn; omega
   ·by_cases Ka : m = l
    ·have : (xs.take h).drop l = [] := by
      apply List.eq_nil_of_length_eq_zero; omega
     rw [if_pos Ka, this]
     cases ad with
     | none => rfl
     | some ad => exact .inl rfl
    ·rw [if_neg Ka]
     cases ad with
     | none => have h5' : xs = [] := h5; rw [h5']; simp [lE]
     | some ad =>
      rcases h5 with h5 | ⟨hs, iR, cs, h6, h7⟩
      ·rw [h5]; exact .inl (by simp)
      ·obtain ⟨b, off, sp⟩ := ad
       simp only at hs iR h6
       subst hs
       simp only [Option.map_some, df, lE]
       refine .inr ⟨trivial, iR, (cs.take (h * e.size)).drop (l * e.size), ?_, aU.drop (aM.length e) (aU.take (aM.length e) h7 h) l⟩
       intro j v hj
       rw [List.getElem?_drop, List.getElem?_take] at hj
       split at hj
       ·have := h6 _ _ hj; rw [Nat.add_assoc]; exact this
       ·cases hj
end
section
variable {E : Env} {C : Ctx} {s : LSt} {k : E1 -> Option R} {r : R} {dst : Option Tmp} {ty : TypeId} {pos : String} {cc : Array Edge} {gd : Option (Nat × Bool)}
def fJ {α : Type} (xs : List α) (i : Nat) (y : α) : Option (List α) := bif Nat.blt i xs.length then some (xs.set i y) else none
theorem H4 {α : Type} {xs zs : List α} {i : Nat} {y : α} (h : fJ xs i y = some zs) : i < xs.length /\ xs.set i y = zs := by
 unfold fJ at h
 cases hb : Nat.blt i xs.length with
 | false => rw [hb] at h; cases h
 | true => rw [hb] at h; cases h; exact ⟨Nat.le_of_ble_eq_true hb, rfl⟩
theorem dV.frozen {o : Oper} {e : E1} (l : List Nat) (hk : k ⟨e.av, e.rd, e.wr ++ bZ s.hp l, e.nx⟩ = some r) (h : bL E.P C o (e.eff o.dst) ⟨s.fr.get, aG (az s.hp) (bZ s.hp l)⟩) : dV E C o s k r :=
 ⟨_, hk, OpW.frozen (e := e) l h.w⟩
theorem mw {E : Env} {C : Ctx} (bG : C.Γ = E.gam) (s : LSt) (hp : Hp) (x : Operand) : (⟨s.fr.get, hp⟩ : ASt).ev C x = s.ev E x := bN bG s x
def m8 (E : Env) (t : TypeId) (x y : Operand) (s : LSt) (k : E1 -> Option R) : Option R :=
 match s.ev E x with
 | .op o p off =>
  (match az s.hp o with
  | some (.box v) => bif (s.ev E y).plain then fx v p (s.ev E y) (fun off' v' => bif Nat.beq off' off && tyN E.P t (s.ev E y).asize then k ⟨.undef, [], [(o, .box v')], s.nx⟩ else none) else none
  | _ => none)
 | .oe o m i =>
  let l := (s.ev E y).osl
  let fz := bZ s.hp l
  (match az (fz ++ s.hp) o with
  | some (.arr T e m' false xs) =>
   bif Nat.beq m m' && tyN E.P t e.size then
    (match toD (fz ++ s.hp) (s.ev E y) e with
    | some z => (fJ xs i z).bind fun zs => k ⟨.undef, l, [(o, .arr T e m false zs)] ++ fz, s.nx⟩
    | none => none)
   else none
  | _ => none)
 | _ => none
theorem DO (bG : C.Γ = E.gam) {t : TypeId} {x y : Operand} (h : m8 E t x y s k = some r) : dV E C ⟨none, .store t x y, ty, pos, cc, gd⟩ s k r := by
 unfold m8 at h
 have ex := bN bG s x
 have ey := bN bG s y
 split at h
 ·rename_i o p off hx
  rw [hx] at ex
  split at h
  ·rename_i v ho
   cases eQ : (s.ev E y).plain with
   | false => rw [eQ] at h; cases h
   | true =>
    rw [eQ] at h
    obtain ⟨off', v', h1, h2⟩ := m6 v p _ _ r h
    cases hb : Nat.beq off' off && tyN E.P t (s.ev E y).asize with
    | false => rw [hb] at h2; cases h2
    | true =>
     rw [hb] at h2
     simp only [bg] at hb
     obtain ⟨b, hty⟩ := Aq hb.2
     exact .of _ h2 (Ad ex ey eQ ho h1 (bo hb.1) hty)
  ·cases h
 ·rename_i o m i hx
  simp only at h
  split at h
  ·rename_i T e m' xs ho
   cases hb : Nat.beq m m' && tyN E.P t e.size with
   | false => rw [hb] at h; cases h
   | true =>
    rw [hb] at h
    simp only [bg] at hb
    have hm := bo hb.1
    subst hm
    obtain ⟨b, hty⟩ := Aq hb.2
    cases hz : toD (bZ s.hp (s.ev E y).osl ++ s.hp) (s.ev E y) e with
    | none => simp only [ak, hz] at h; cases h
    | some z =>
     simp only [ak, hz] at h
     obtain ⟨zs, hzs, h⟩ := aS h
     obtain ⟨g1, rfl⟩ := H4 hzs
     refine .frozen (e := ⟨.undef, (s.ev E y).osl, [(o, .arr T e m false (xs.set i z))], s.nx⟩) (s.ev E y).osl h ?_
     have hc := iK hz
     rw [bj] at hc ho
     exact xR (by rw [mw bG, hx]) ho g1 (by rw [mw bG]; exact hc) _ (by rw [mw bG]; exact fun _ h => h) hty
  ·cases h
 ·cases h
def Xz (P : Program) (t : TypeId) (f : Nat) : Option Nat :=
 match P.underlying t with
 | some (.struct fs) => (match fs[f]? with | some fl => (match P.info? fl.type with | some i => bif Nat.beq i.size 0 then none else some fl.offset | none => none) | none => none)
 | _ => none
theorem tj {P : Program} {t : TypeId} {f o : Nat} (h : Xz P t f = some o) : Aa P t f o := by
 unfold Xz at h
 split at h
 ·rename_i fs hfs
  split at h
  ·rename_i fl hfl
   split at h
   ·rename_i i hi
    cases hb : Nat.beq i.size 0 with
    | true => rw [hb] at h; cases h
    | false => rw [hb] at h; cases h; exact ⟨fs, fl, i, hfs, hfl, rfl, hi, iU hb⟩
   ·cases h
  ·cases h
 ·cases h
def KD (P : Program) (t : TypeId) (f : Nat) : Option (Nat × Nat × Bool) :=
 match P.underlying t with
 | some (.struct fs) => (match fs[f]? with | some fl => (match Kx P fl.type with | some (n, b) => some (fl.offset, n, b) | none => none) | none => none)
 | _ => none
theorem H5 {P : Program} {t : TypeId} {f o n : Nat} {b : Bool} (h : KD P t f = some (o, n, b)) : ady P t f o n b := by
 unfold KD at h
 split at h
 ·rename_i fs hfs
  split at h
  ·rename_i fl hfl
   split at h
   ·rename_i n' b' hi
    cases h
    exact ⟨fs, fl, hfs, hfl, rfl, tg hi⟩
   ·cases h
  ·cases h
 ·cases h
theorem xS {P : Program} {s : ASt} {t : TypeId} {x : Operand} {f kk off' o m i : Nat} {T : TypeId} {e HB : Ty} {xs : List e.den} {z : e.den} {y' : HB.den} (hx : s.ev C x = .oe o m i) (ho : s.hp o = some (.arr T e m true xs)) (hz : xs[i]? = some z)
  (hf : Aa P t f kk) (hs : Sub (.d e z) [f] off' (.d HB y')) (hoff : off' = kk) : bL P C ⟨dst, .fieldAddr t x f, ty, pos, cc, gd⟩ ⟨dst, .ip HB y', [o], []⟩ s :=
 dC [o] fun w im μ hp ρ h hk ef => by
  subst hoff
  obtain ⟨hr, cY⟩ := hx ▸ h x (by simp [Op.operands])
  have rm : hp o = some (.arr T e m true xs) := (hk o (by simp)).trans ho
  simp only [RepA] at hr
  obtain ⟨T', e', m', z', oP, eZ, hle, u, hc, h1, eQ⟩ := hr
  rw [rm] at eZ
  cases eZ
  obtain ⟨b, cap, iS, rfl⟩ := eQ rfl
  have cn : i < xs.length := (List.getElem?_eq_some_iff.1 hz).1
  rcases ef o _ rm with ⟨ad, bq, rfl⟩ | ⟨PX, _⟩ | ⟨_, b', cap', cs, bq, iR, _, _, hb, hl⟩
  ·simp at cn
  ·cases PX
  ·obtain rfl : b' = b := by
    rcases iS with iS | iS <;> rw [iS] at bq <;> cases bq <;> rfl
   have hv : ρ x = .pointer (some ⟨b', i * e.size, none⟩) := by
    generalize ρ x = v at hc cY
    cases v <;> simp_all [Value.cells, bh, AV.isAgg]
   obtain ⟨hg, hgl⟩ := aU.get (aM.length e) hl hz
   have hca2 := hb.sub (i * e.size) e.size
   rw [Nat.zero_add] at hca2
   obtain ⟨c1, c2, c3, qb, Df, hu⟩ := hs.sound (w := w) (im := im) (μ := μ) (hp := hp) _ (by simp only [RepA]; exact hg)
   rw [qb] at hca2
   have hca3 := (cp.append hca2).2
   rw [Df] at hca3
   refine ⟨.pointer (some ⟨b', i * e.size + off', none⟩), w, ?_, rfl, rfl, rfl, rfl, ?_, rfl⟩
   ·simp only [execOp, hv, Sem.run_bind, mo hf, Result.andThen_ok]; rfl
   ·simp only [RepA, Value.cells] at hu ⊢
    exact ⟨b', i * e.size + off', rfl, iR, c2, (cp.append hca3).1, hu⟩
def fZ (E : Env) (t : TypeId) (x : Operand) (f : Nat) (s : LSt) (k : E1 -> Option R) : Option R :=
 match Xz E.P t f with
 | some kk =>
  (match s.ev E x with
  | .op o p off => k (s.pv (.op o (p ++ [f]) (off + kk)))
  | .ip τ y => fQ τ y [f] (fun off' u => match u with | .d HB y' => bif Nat.beq off' kk then k (s.pv (.ip HB y')) else none | _ => none)
  | .oe o m i =>
   let fz := bZ s.hp [o]
   (match az (fz ++ s.hp) o with
   | some (.arr _ e m' true xs) =>
    bif Nat.beq m m' then
     (match xs[i]? with
     | some z => fQ e z [f] (fun off' u => match u with | .d HB y' => bif Nat.beq off' kk then k ⟨.ip HB y', [o], fz, s.nx⟩ else none | _ => none)
     | none => none)
    else none
   | _ => none)
  | _ => none)
 | none => none
theorem tk (bG : C.Γ = E.gam) {t : TypeId} {x : Operand} {f : Nat} (h : fZ E t x f s k = some r) : dV E C ⟨dst, .fieldAddr t x f, ty, pos, cc, gd⟩ s k r := by
 unfold fZ at h
 have ex := bN bG s x
 split at h
 ·rename_i kk hf
  split at h
  ·rename_i o p off hx
   rw [hx] at ex
   exact .of _ h (Ab ex (tj hf) rfl rfl)
  ·rename_i τ y hx
   rw [hx] at ex
   obtain ⟨off', u, h1, h2⟩ := ju τ y [f] _ r h
   split at h2
   ·rename_i HB y'
    cases hb : Nat.beq off' kk with
    | false => rw [hb] at h2; cases h2
    | true => rw [hb] at h2; exact .of _ h2 (Ac ex (tj hf) h1 (bo hb))
   ·cases h2
  ·rename_i o m i hx
   simp only at h
   split at h
   ·rename_i T e m' xs ho
    cases hb : Nat.beq m m' with
    | false => rw [hb] at h; cases h
    | true =>
     rw [hb] at h
     have hm := bo hb
     subst hm
     simp only [ak] at h
     split at h
     ·rename_i z hz
      obtain ⟨off', u, h1, h2⟩ := ju e z [f] _ r h
      split at h2
      ·rename_i HB y'
       cases hb : Nat.beq off' kk with
       | false => rw [hb] at h2; cases h2
       | true =>
        rw [hb] at h2
        refine .frozen (e := ⟨.ip HB y', [o], [], s.nx⟩) [o] h2 ?_
        rw [bj] at ho
        exact xS (by rw [mw bG, hx]) ho hz (tj hf) h1 (bo hb)
      ·cases h2
     ·cases h
   ·cases h
  ·cases h
 ·cases h
def m9 (E : Env) (t : TypeId) (x : Operand) (f : Nat) (s : LSt) (k : E1 -> Option R) : Option R :=
 match KD E.P t f with
 | some (kk, n, b) =>
  bif (s.ev E x).plain && (s.ev E x).isAgg then
   dg (s.ev E x) [f] (fun off' u => bif Nat.beq off' kk && (Nat.beq u.asize n && (bif u.isAgg then b else !b)) then k (s.pv u) else none)
  else none
 | none => none
theorem DP (bG : C.Γ = E.gam) {t : TypeId} {x : Operand} {f : Nat} (h : m9 E t x f s k = some r) : dV E C ⟨dst, .field t x f, ty, pos, cc, gd⟩ s k r := by
 unfold m9 at h
 have ex := bN bG s x
 split at h
 ·rename_i kk n b hf
  cases hb : (s.ev E x).plain && (s.ev E x).isAgg with
  | false => rw [hb] at h; cases h
  | true =>
   rw [hb] at h
   simp only [bg] at hb
   obtain ⟨off', u, h1, h2⟩ := kR _ [f] _ r h
   cases hc : Nat.beq off' kk && (Nat.beq u.asize n && (bif u.isAgg then b else !b)) with
   | false => rw [hc] at h2; cases h2
   | true =>
    rw [hc] at h2
    simp only [bg] at hc
    obtain ⟨c1, c2, c3⟩ := hc
    have hv := H5 hf
    rw [← bo c2] at hv
    have : b = u.isAgg := by cases hq : u.isAgg <;> rw [hq] at c3 <;> cases b <;> simp_all
    rw [this] at hv
    exact .of _ h2 (HM ex hb.1 hb.2 h1 hv (bo c1))
 ·cases h
def ga (E : Env) (t : TypeId) (x y : Operand) (s : LSt) (k : E1 -> Option R) : Option R :=
 match s.ev E x, s.ev E y with
 | .d (.slice e) xs, .d (.int _) n => bif jl E.P t e.size then (idx xs n).bind fun z => k (s.pv (.ip e z)) else none
 | .ip (.arr m e) xs, .d (.int _) n => bif HU E.P t m e.size then (idx xs n).bind fun z => k (s.pv (.ip e z)) else none
 | .os o m, .d (.int _) n =>
  (match az s.hp o with
  | some (.arr _ e m' _ xs) => bif Nat.beq m m' && jl E.P t e.size then (idx xs n).bind fun _ => k (s.pr (.oe o m n.toNat) [o]) else none
  | _ => none)
 | .ow o m j q, .d (.int _) n =>
  (match az s.hp o with
  | some (.arr _ e m' _ xs) => bif Nat.beq m m' && (jl E.P t e.size && (decide (0 <= n) && decide (n < q))) then (xs[j + n.toNat]?).bind fun _ => k (s.pr (.oe o m (j + n.toNat)) [o]) else none
  | _ => none)
 | .op o p off, .d (.int _) n =>
  (match az s.hp o with
  | some (.box v) => dg v p (fun _ u => match u with | .d (.arr m e) xs => bif HU E.P t m e.size then (idx xs n).bind fun _ => k (s.pr (.op o (p ++ [n.toNat]) (off + n.toNat * e.size)) [o]) else none | _ => none)
  | _ => none)
 | _, _ => none
theorem tm (bG : C.Γ = E.gam) {t : TypeId} {x y : Operand} (h : ga E t x y s k = some r) : dV E C ⟨dst, .indexAddr t x y, ty, pos, cc, gd⟩ s k r := by
 unfold ga at h
 have ex := bN bG s x
 have ey := bN bG s y
 split at h
 ·rename_i e xs kk n hx hy
  rw [hx] at ex; rw [hy] at ey
  cases hb : jl E.P t e.size with
  | false => rw [hb] at h; cases h
  | true =>
   rw [hb] at h
   obtain ⟨z, hz, h⟩ := aS h
   exact .of _ h (DD ex ey (dQ hb) (gC hz).1 (gC hz).2)
 ·rename_i m e xs kk n hx hy
  rw [hx] at ex; rw [hy] at ey
  cases hb : HU E.P t m e.size with
  | false => rw [hb] at h; cases h
  | true =>
   rw [hb] at h
   obtain ⟨z, hz, h⟩ := aS h
   exact .of _ h (sR ex ey (wo hb) (gC hz).1 (gC hz).2)
 ·rename_i o m kk n hx hy
  rw [hx] at ex; rw [hy] at ey
  split at h
  ·rename_i T e m' fz xs ho
   cases hb : Nat.beq m m' && jl E.P t e.size with
   | false => rw [hb] at h; cases h
   | true =>
    rw [hb] at h
    simp only [bg] at hb
    have hm := bo hb.1
    subst hm
    obtain ⟨z, hz, h⟩ := aS h
    exact .of _ h (Af ex ho ey (dQ hb.2) (gC hz).1 (gC hz).2)
  ·cases h
 ·rename_i o m j q kk n hx hy
  rw [hx] at ex; rw [hy] at ey
  split at h
  ·rename_i T e m' fz xs ho
   cases hb : Nat.beq m m' && (jl E.P t e.size && (decide (0 <= n) && decide (n < q))) with
   | false => rw [hb] at h; cases h
   | true =>
    rw [hb] at h
    simp only [bg, decide_eq_true_eq] at hb
    have hm := bo hb.1
    subst hm
    obtain ⟨z, hz, h⟩ := aS h
    exact .of _ h (Ag ex ho ey (dQ hb.2.1) hb.2.2.1 hb.2.2.2)
  ·cases h
 ·rename_i o p off kk n hx hy
  rw [hx] at ex; rw [hy] at ey
  split at h
  ·rename_i v ho
   obtain ⟨off1, u, h1, h2⟩ := kR v p _ r h
   split at h2
   ·rename_i m e xs
    cases hb : HU E.P t m e.size with
    | false => rw [hb] at h2; cases h2
    | true =>
     rw [hb] at h2
     obtain ⟨z, hz, h2⟩ := aS h2
     exact .of _ h2 (sS ex ho h1 ey (wo hb) (gC hz).1 (gC hz).2 rfl rfl)
   ·cases h2
  ·cases h
 ·cases h
def qW (P : Program) (t : TypeId) : Bool := match P.underlying t with | some .string => true | _ => false
theorem og {P : Program} {t : TypeId} (h : qW P t = true) : P.underlying t = some .string := by
 unfold qW at h
 split at h
 ·rename_i hm; exact hm
 ·cases h
def H6 (E : Env) (t : TypeId) (m : Nat) (e : Ty) : Bool :=
 match E.P.underlying t with
 | some (.array m' T) => Nat.beq m' m && th E.P T e.size e.isAgg && (match lk E.ty t with | some τ => decide (τ = .arr m e) | none => false)
 | _ => false
theorem Av (hE : E.OK) {t : TypeId} {m : Nat} {e : Ty} (h : H6 E t m e = true) : ArE E.P t m e := by
 unfold H6 at h
 split at h
 ·rename_i m' T hT
  simp only [bg] at h
  obtain ⟨⟨h1, h2⟩, h3⟩ := h
  split at h3
  ·rename_i τ hτ
   have := aZ h3
   subst this
   obtain ⟨i, z, g1, g2, g3, g4, g5⟩ := (hE.ty _ (fy hτ)).info
   rw [← bo h1] at *
   exact ⟨⟨T, hT, kS h2⟩, ⟨i, z, g1, g4, g5⟩⟩
  ·cases h3
 ·cases h
def na (E : Env) (t : TypeId) (x y : Operand) (s : LSt) (k : E1 -> Option R) : Option R :=
 match s.ev E x, s.ev E y with
 | .d .str l, .d (.int _) n => bif qW E.P t then (Ak l n).bind fun z => k (s.pv (.d (.int .u8) z)) else none
 | .d (.arr m e) xs, .d (.int _) n => bif H6 E t m e then (idx xs n).bind fun z => k (s.pv (.d e z)) else none
 | _, _ => none
theorem DQ (hE : E.OK) (bG : C.Γ = E.gam) {t : TypeId} {x y : Operand} (h : na E t x y s k = some r) : dV E C ⟨dst, .index t x y, ty, pos, cc, gd⟩ s k r := by
 unfold na at h
 have ex := bN bG s x
 have ey := bN bG s y
 split at h
 ·rename_i l kk n hx hy
  rw [hx] at ex; rw [hy] at ey
  cases hb : qW E.P t with
  | false => rw [hb] at h; cases h
  | true =>
   rw [hb] at h
   obtain ⟨z, hz, h⟩ := aS h
   obtain ⟨h0, b, j5, rfl⟩ := HR hz
   exact .of _ h (xO ex ey (og hb) h0 j5)
 ·rename_i m e xs kk n hx hy
  rw [hx] at ex; rw [hy] at ey
  cases hb : H6 E t m e with
  | false => rw [hb] at h; cases h
  | true =>
   rw [hb] at h
   obtain ⟨z, hz, h⟩ := aS h
   exact .of _ h (xQ ex ey (Av hE hb) hz)
 ·cases h
def l8 (E : Env) (s : LSt) (x : Option Operand) (dflt : Int) : Option Int :=
 match x with
 | none => some dflt
 | some x => (match s.ev E x with | .d (.int _) n => some n | _ => none)
theorem fA (bG : C.Γ = E.gam) {x : Option Operand} {dflt : Nat} {z : Int} (h : l8 E s x dflt = some z) (h0 : 0 <= z) (hp : Hp) : fH C ⟨s.fr.get, hp⟩ x dflt z.toNat := by
 unfold l8 at h
 split at h
 ·cases h; simp [fH]
 ·rename_i y
  split at h
  ·rename_i kk n hn
   cases h
   exact ⟨kk, z, by rw [mw bG]; exact hn, h0, rfl⟩
  ·cases h
def qn (E : Env) (s : LSt) (x : Operand) : Bool := match s.ev E x with | .d (.int .i64) n => n == 0 | _ => false
theorem qX (bG : C.Γ = E.gam) {x : Operand} (h : qn E s x = true) : s.toA.ev C x = .d (.int .i64) 0 := by
 unfold qn at h
 rw [bN bG]
 split at h
 ·rename_i n hn
  have : n = 0 := by simpa using h
  rw [hn, this]
 ·cases h
theorem vz {P : Program} {s : ASt} {t : TypeId} {x : Operand} {lo hi : Option Operand} {esz : Nat} (hx : s.ev C x = .nils) (ht : SlT P t esz) (mf : fH C s lo 0 0) (qM : fH C s hi 0 0) :
  bL P C ⟨dst, .slice t x lo hi none, ty, pos, cc, gd⟩ ⟨dst, .nils, [], []⟩ s :=
 aY fun w im μ hp ρ hr => by
  obtain ⟨hA, cY⟩ := hx ▸ hr x (by simp [Op.operands])
  simp only [RepA] at hA
  have hv := aL hA cY
  obtain ⟨et, i, hu, fq, gk⟩ := ht
  have hb := fb (P := P) w (len := 0) (cap := 0) (du mf (fun o ho => hr o (by subst ho; simp [Op.operands]))) (du qM (fun o ho => hr o (by subst ho; cases lo <;> simp [Op.operands]))) (Nat.le_refl _) (Nat.le_refl _) true
  refine ⟨.slice none 0 0, ?_, ⟨by simp only [RepA, Value.cells], rfl⟩⟩
  simp [execOp, hv, Instr.sliceAt, Instr.slice, run_underlying hu, hb, sizeOf, typeInfo, fq]
theorem tp {P : Program} {s : ASt} {t : TypeId} {x : Operand} {hi : Option Operand} {o n kk : Nat} {T : TypeId} {e : Ty} {xs : List e.den} (hx : s.ev C x = .os o n) (ho : s.hp o = some (.arr T e n false xs)) (ht : SlT P t e.size)
  (qM : fH C s hi xs.length kk) (hk : kk <= xs.length) : bL P C ⟨dst, .slice t x none hi none, ty, pos, cc, gd⟩ ⟨dst, .os o (n + 1), [], [(o, .arr T e (n + 1) false (xs.take kk))]⟩ s := by
 intro s1 fX gm im μ a w fq hd
 have sA : s1.ev C x = .os o n := (fX x (by simp [Op.operands])).trans hx
 have Dg : s1.hp o = some (.arr T e n false xs) := (gm o (.inr (by simp))).trans ho
 have hh1 : fH C s1 hi xs.length kk := by
  cases hi with
  | none => exact qM
  | some y =>
   obtain ⟨k, z, h1, h2, h3⟩ := qM
   exact ⟨k, z, (fX y (by simp [Op.operands])).trans h1, h2, h3⟩
 obtain ⟨hr, cY⟩ := sA ▸ fq.ev x
 simp only [RepA] at hr
 obtain ⟨T', e', m', z', oP, eZ, hle, u, hc, h1, eQ⟩ := hr
 rw [Dg] at eZ
 cases eZ
 have hpl2 := eQ rfl
 clear eQ
 have hv : a.eval x = u := by
  have : (a.eval x).cells.toList = [u] := hc
  generalize a.eval x = v at this cY
  cases v <;> simp_all [Value.cells, bh, AV.isAgg]
 obtain ⟨et, i, hu, ma, gk⟩ := ht
 have cn : (xs.take kk).length = kk := by rw [List.length_take]; omega
 have key : ∃ v', (execOp a.eval ⟨dst, .slice t x none hi none, ty, pos, cc, gd⟩).run P w = .ok (.value v') w /\ v'.oneCell' = true /\ cI (μ o) kk v' /\
   ((∃ a, μ o = .nil a /\ xs.take kk = []) \/ (false = false /\ ∃ b cap cells, μ o = .row b cap /\ w.heap[b]? = some (.cells cells T (0, 0)) /\ (xs.take kk).length <= cap /\ cap <= maxLen /\ cells.size = cap * e.size /\ aU (aM w im e) (cells.toList.take ((xs.take kk).length * e.size)) (xs.take kk))) := by
  rcases fq.obj o _ Dg with ⟨ad, bq, rfl⟩ | ⟨_, b, cap, cells, bq, hb, hcap, hmax, hsz', hl⟩ | ⟨hz, _⟩
  ·simp only [List.length_nil, Nat.le_zero] at hk
   subst hk
   rw [bq] at hpl2 ⊢
   simp only [cI] at hpl2
   subst hpl2
   have hb := fb (P := P) w (lo := none) (len := 0) (cap := 0) rfl (du hh1 (fun o _ => fq.ev o)) (Nat.le_refl _) (Nat.le_refl _) true
   refine ⟨.slice ad 0 0, ?_, rfl, rfl, .inl ⟨ad, rfl, rfl⟩⟩
   simp [execOp, hv, Instr.sliceAt, Instr.slice, run_underlying hu, hb, sizeOf, typeInfo, ma, gk]
  ·rw [bq] at hpl2 ⊢
   simp only [cI] at hpl2
   subst hpl2
   have j5 := fb (P := P) w (lo := none) (len := xs.length) (cap := cap) rfl (du hh1 (fun o _ => fq.ev o)) (Nat.zero_le kk) (by omega) true
   refine ⟨.slice (some ⟨b, 0, none⟩) kk cap, ?_, rfl, rfl, .inr ⟨rfl, b, cap, cells, rfl, hb, by omega, hmax, hsz', ?_⟩⟩
   ·by_cases hc0 : cap = 0
    ·rw [hc0] at j5 hv ⊢
     simp [execOp, hv, Instr.sliceAt, Instr.slice, run_underlying hu, j5, sizeOf, typeInfo, ma, gk]
    ·simp [execOp, hv, Instr.sliceAt, Instr.slice, run_underlying hu, j5, sizeOf, typeInfo, ma, gk, hc0, df]
   ·have := aU.take (aM.length e) hl kk
    rw [List.take_take] at this
    rw [cn]
    rw [Nat.min_eq_left (Nat.mul_le_mul_right _ hk)] at this
    exact this
  ·cases hz
 obtain ⟨v', g1, g2, g3, g4⟩ := key
 have gU : ∀ ob, s1.hp o = some ob -> cZ ob (μ o) (.arr T e (n + 1) false (xs.take kk)) (μ o) := by
  intro ob ef
  rw [Dg] at ef
  obtain rfl := Option.some.inj ef
  exact ⟨_, _, _, rfl, .inr (Nat.lt_succ_self _)⟩
 have hw : ki w w (μ o).blk := ⟨rfl, rfl, rfl, Nat.le_refl _, fun _ _ _ => rfl⟩
 have ev := fq.evObj gU hw
 refine ⟨v', w, im, _, .inl g1, fq.obj1 gU hw (fun b hb => ⟨(fq.sep o b hb).2.1, .inl hb⟩) ?_ hd ?_⟩
 ·rcases g4 with ⟨b, h2, h3⟩ | ⟨h0, b, cap, cells, h2, h3, h4, h5, h6, h7⟩
  ·exact .inl ⟨b, h2, h3⟩
  ·exact .inr (.inl ⟨rfl, b, cap, cells, h2, h3, h4, h5, h6, aU.mono (aM.mono ev.fim ev.fheap e) _ _ h7⟩)
 ·refine bC.ofA ?_ (by cases v' <;> simp_all [Value.oneCell', bh, AV.isAgg])
  simp only [RepA]
  exact ⟨T, e, _, _, _, dP _ _ _, Nat.le_refl _, v', by rw [(mZ g2).1], g2, fun _ => by rw [bO, cn]; exact g3⟩
theorem xT {P : Program} {s : ASt} {t : TypeId} {x : Operand} {lo hi : Option Operand} {o n l h : Nat} {T : TypeId} {e : Ty} {fz : Bool} {xs : List e.den} (hx : s.ev C x = .os o n) (ho : s.hp o = some (.arr T e n fz xs)) (ht : SlT P t e.size)
  (mf : fH C s lo 0 l) (qM : fH C s hi xs.length h) (h1 : l < h) (h2 : h <= xs.length) : bL P C ⟨dst, .slice t x lo hi none, ty, pos, cc, gd⟩ ⟨dst, .ow o n l (h - l), [o], []⟩ s :=
 dC [o] fun w im μ hp ρ hr hk ef => by
  obtain ⟨hA, cY⟩ := hx ▸ hr x (by simp [Op.operands])
  have rm : hp o = some (.arr T e n fz xs) := (hk o (by simp)).trans ho
  simp only [RepA] at hA
  obtain ⟨T', e', m', z', oP, eZ, hle, u, hc, hu1, eQ⟩ := hA
  rw [rm] at eZ
  cases eZ
  have hpl2 := eQ rfl
  clear eQ
  obtain ⟨et, i, hu, fq, gk⟩ := ht
  rcases (ef o _ rm).arr with ⟨ad, bq, rfl⟩ | ⟨b, cap, cs, bq, hcap, _⟩
  ·simp at h2; omega
  ·have hpl3 : u = .slice (some ⟨b, 0, none⟩) xs.length cap := by rcases bq with bq | bq <;> rw [bq] at hpl2 <;> exact hpl2
   subst hpl3
   have hv := aL hc cY
   have hb := fb (P := P) w (len := xs.length) (cap := cap) (du mf (fun o ho => hr o (by subst ho; simp [Op.operands]))) (du qM (fun o ho => hr o (by subst ho; cases lo <;> simp [Op.operands]))) (Nat.le_of_lt h1) (by omega) true
   have lC : ¬ cap = l := by omega
   refine ⟨.slice (some ⟨b, l * e.size, none⟩) (h - l) (cap - l), w, ?_, rfl, rfl, rfl, rfl, ⟨?_, rfl⟩⟩
   ·simp [execOp, hv, Instr.sliceAt, Instr.slice, run_underlying hu, hb, sizeOf, typeInfo, fq, gk, lC, df]
   ·simp only [RepA, Value.cells]
    exact ⟨T, e, n, fz, xs, rm, Nat.le_refl _, _, rfl, rfl, fun _ => ⟨b, cap, bq, rfl⟩⟩
theorem Aw {P : Program} {s : ASt} {t : TypeId} {x : Operand} {lo hi : Option Operand} {o n j q l h : Nat} {T : TypeId} {e : Ty} {fz : Bool} {xs : List e.den} (hx : s.ev C x = .ow o n j q) (ho : s.hp o = some (.arr T e n fz xs)) (ht : SlT P t e.size)
  (mf : fH C s lo 0 l) (qM : fH C s hi q h) (h1 : l < h) (h2 : j + h <= xs.length) : bL P C ⟨dst, .slice t x lo hi none, ty, pos, cc, gd⟩ ⟨dst, .ow o n (j + l) (h - l), [o], []⟩ s :=
 dC [o] fun w im μ hp ρ hr hk ef => by
  obtain ⟨hA, cY⟩ := hx ▸ hr x (by simp [Op.operands])
  have rm : hp o = some (.arr T e n fz xs) := (hk o (by simp)).trans ho
  simp only [RepA] at hA
  obtain ⟨T', e', m', z', oP, eZ, hle, u, hc, hu1, eQ⟩ := hA
  rw [rm] at eZ
  cases eZ
  obtain ⟨b, cap, iS, rfl⟩ := eQ rfl
  obtain ⟨et, i, hu, fq, gk⟩ := ht
  rcases (ef o _ rm).arr with ⟨ad, bq, rfl⟩ | ⟨b', cap', cs, bq, hcap, _⟩
  ·simp at h2; omega
  ·obtain ⟨rfl, rfl⟩ : b' = b /\ cap' = cap := by
    rcases iS with iS | iS <;> rcases bq with bq | bq <;> rw [iS] at bq <;> cases bq <;> exact ⟨rfl, rfl⟩
   have hv := aL hc cY
   have hb := fb (P := P) w (len := q) (cap := cap' - j) (du mf (fun o ho => hr o (by subst ho; simp [Op.operands]))) (du qM (fun o ho => hr o (by subst ho; cases lo <;> simp [Op.operands]))) (Nat.le_of_lt h1) (by omega) true
   have lC : ¬ cap' - j = l := by omega
   refine ⟨.slice (some ⟨b', (j + l) * e.size, none⟩) (h - l) (cap' - (j + l)), w, ?_, rfl, rfl, rfl, rfl, ⟨?_, rfl⟩⟩
   ·simp [execOp, hv, Instr.sliceAt, Instr.slice, run_underlying hu, hb, sizeOf, typeInfo, fq, gk, lC, df, Nat.add_mul, Nat.sub_sub]
   ·simp only [RepA, Value.cells]
    exact ⟨T, e, n, fz, xs, rm, Nat.le_refl _, _, rfl, rfl, fun _ => ⟨b', cap', bq, rfl⟩⟩
def win (len : Nat) (l h : Int) : Option (Nat × Nat) := bif decide (0 <= l) && (decide (l < h) && decide (h <= len)) then some (l.toNat, (h - l).toNat) else none
theorem Ax {len : Nat} {l h : Int} {p : Nat × Nat} (hw : win len l h = some p) : 0 <= l /\ l < h /\ h <= len /\ p = (l.toNat, h.toNat - l.toNat) := by
 unfold win at hw
 cases hb : decide (0 <= l) && (decide (l < h) && decide (h <= len)) with
 | false => rw [hb] at hw; cases hw
 | true =>
  rw [hb] at hw
  simp only [bg, decide_eq_true_eq] at hb
  cases hw
  exact ⟨hb.1, hb.2.1, hb.2.2, by rw [show (h - l).toNat = h.toNat - l.toNat by omega]⟩
def XA (pos : String) : Bool := pos == "linear.go:45" || pos == "move.go:92" || pos == "slices.go:528"
def Qj (pos : String) : Bool := pos == "slices.go:428"
def kT (E : Env) (t : TypeId) (x : Operand) (lo : Option Operand) (hh mm : Operand) (s : LSt) (k : E1 -> Option R) : Option R :=
 let fz := bZ s.hp (s.ev E x).osl
 match HT (fz ++ s.hp) (s.ev E x) none with
 | some ⟨e, _⟩ =>
  bif jl E.P t e.size then
   (match toD (fz ++ s.hp) (s.ev E x) (.slice e), l8 E s lo 0, l8 E s (some hh) 0, l8 E s (some mm) 0 with
   | some ys, some a, some b, some m => bif decide (0 <= m) && decide (b <= m) && decide (m <= ys.length) then (cut ys a b).bind fun zs => k ⟨.d (.slice e) zs, (s.ev E x).osl, fz, s.nx⟩ else none
   | _, _, _, _ => none)
  else none
 | none => none
theorem Ay (bG : C.Γ = E.gam) {t : TypeId} {x hh mm : Operand} {lo : Option Operand} (h : kT E t x lo hh mm s k = some r) : dV E C ⟨dst, .slice t x lo (some hh) (some mm), ty, pos, cc, gd⟩ s k r := by
 unfold kT at h
 simp only at h
 split at h
 ·rename_i e xs hs
  cases hb : jl E.P t e.size with
  | false => rw [hb] at h; cases h
  | true =>
   rw [hb] at h
   simp only [ak] at h
   split at h
   ·rename_i ys a b m hy ha j5 hm2
    cases hc : decide (0 <= m) && decide (b <= m) && decide (m <= (ys.length : Int)) with
    | false => rw [hc] at h; cases h
    | true =>
     rw [hc] at h
     simp only [bg, decide_eq_true_eq] at hc
     simp only [ak] at h
     obtain ⟨zs, hz, h⟩ := aS h
     obtain ⟨c1, c2, c3, c4, rfl⟩ := mu hz
     refine .frozen (e := ⟨.d (.slice e) ((ys.take b.toNat).drop a.toNat), (s.ev E x).osl, [], s.nx⟩) (s.ev E x).osl h ?_
     have J2 := iK hy
     rw [bj] at J2
     exact Au (by rw [mw bG]; exact J2) _ (by rw [mw bG]; exact fun _ h => h) (dQ hb) (fA bG (dflt := 0) ha c1 _) (fA bG (dflt := 0) j5 c3 _) (fA bG (dflt := 0) hm2 hc.1.1 _) (by omega) (by omega) c2 c4
   ·cases h
 ·cases h
def nc (E : Env) (tr kp : Bool) (t : TypeId) (x : Operand) (lo hi mx : Option Operand) (s : LSt) (k : E1 -> Option R) : Option R :=
 match mx with
 | none =>
  (match s.ev E x with
  | .nils => bif (match E.P.underlying t with | some (.slice e) => (match E.P.info? e with | some _ => true | none => false) | _ => false) then
    (match l8 E s lo 0 with
    | some a => (match l8 E s hi 0 with | some b => bif (a == 0) && (b == 0) then k (s.pv .nils) else none | none => none)
    | none => none)
   else none
  | .d .str l =>
   bif qW E.P t then
    (match l8 E s lo 0 with
    | some a => (match l8 E s hi l.length with | some b => (cut l a b).bind fun zs => k (s.pv (.d .str zs)) | none => none)
    | none => none)
   else none
  | .d (.slice e) xs =>
   bif jl E.P t e.size then
    (match l8 E s lo 0 with
    | some a => (match l8 E s hi xs.length with | some b => (cut xs a b).bind fun zs => k (s.pv (.d (.slice e) zs)) | none => none)
    | none => none)
   else none
  | .os o n =>
   bif tr then
    (match lo with
    | some _ => none
    | none =>
     (match az s.hp o with
     | some (.arr T e m false xs) =>
      bif Nat.beq n m && jl E.P t e.size then
       (match l8 E s hi xs.length with
       | some b => (cut xs 0 b).bind fun zs => k ⟨.os o (n + 1), [], [(o, .arr T e (n + 1) false zs)], s.nx⟩
       | none => none)
      else none
     | _ => none))
   else bif kp then
    (match az s.hp o with
    | some (.arr _ e m _ xs) =>
     bif Nat.beq n m && jl E.P t e.size then
      (match l8 E s lo 0 with
      | some a => (match l8 E s hi xs.length with | some b => (win xs.length a b).bind fun p => k (s.pr (.ow o n p.1 p.2) [o]) | none => none)
      | none => none)
     else none
    | _ => none)
   else
   let fz := bZ s.hp [o]
   (match az (fz ++ s.hp) o with
   | some (.arr _ e m true xs) =>
    bif Nat.beq n m && jl E.P t e.size then
     (match l8 E s lo 0 with
     | some a => (match l8 E s hi xs.length with | some b => (cut xs a b).bind fun zs => k ⟨.d (.slice e) zs, [o], fz, s.nx⟩ | none => none)
     | none => none)
    else none
   | _ => none)
  | .ow o n j q =>
   (match az s.hp o with
   | some (.arr _ e m _ xs) =>
    bif Nat.beq n m && jl E.P t e.size then
     (match l8 E s lo 0 with
     | some a => (match l8 E s hi q with | some b => (win q a b).bind fun p => bif Nat.ble (j + q) xs.length then k (s.pr (.ow o n (j + p.1) p.2) [o]) else none | none => none)
     | none => none)
    else none
   | _ => none)
  | _ => none)
 | some m =>
  (match hi with
  | none => none
  | some h =>
   bif qn E s h && qn E s m then
    (match lo with
    | some _ => none
    | none =>
     (match E.P.underlying t with
     | some (.slice T) => (match HT s.hp (s.ev E x) (lk E.ty T) with | some ⟨e, _⟩ => bif jl E.P t e.size then k (s.pr .emp (s.ev E x).objs) else none | none => none)
     | _ => none))
   else kT E t x lo h m s k)
theorem DR (bG : C.Γ = E.gam) {tr kp : Bool} {t : TypeId} {x : Operand} {lo hi mx : Option Operand} (h : nc E tr kp t x lo hi mx s k = some r) : dV E C ⟨dst, .slice t x lo hi mx, ty, pos, cc, gd⟩ s k r := by
 unfold nc at h
 have ex := bN bG s x
 split at h
 ·split at h
  ·rename_i hx
   rw [hx] at ex
   cases hb : (match E.P.underlying t with | some (.slice e) => (match E.P.info? e with | some _ => true | none => false) | _ => false) with
   | false => rw [hb] at h; cases h
   | true =>
    rw [hb] at h
    simp only [ak] at h
    split at h
    ·rename_i a ha
     split at h
     ·rename_i b j5
      cases hab : (a == 0) && (b == 0) with
      | false => rw [hab] at h; cases h
      | true =>
       rw [hab] at h
       simp only [bg, beq_iff_eq] at hab
       obtain ⟨rfl, rfl⟩ := hab
       split at hb
       ·rename_i e he
        split at hb
        ·rename_i i fq
         exact .of _ h (vz ex ⟨e, i, he, fq, rfl⟩ (fA bG (dflt := 0) ha (Int.le_refl 0) _) (fA bG (dflt := 0) j5 (Int.le_refl 0) _))
        ·cases hb
       ·cases hb
     ·cases h
    ·cases h
  ·rename_i l hx
   rw [hx] at ex
   cases hb : qW E.P t with
   | false => rw [hb] at h; cases h
   | true =>
    rw [hb] at h
    simp only [ak] at h
    split at h
    ·rename_i a ha
     split at h
     ·rename_i b j5
      obtain ⟨zs, hz, h⟩ := aS h
      obtain ⟨c1, c2, c3, c4, rfl⟩ := mu hz
      exact .of _ h (xG ex (og hb) (fA bG (dflt := 0) ha c1 _) (fA bG j5 c3 _) c2 c4)
     ·cases h
    ·cases h
  ·rename_i e xs hx
   rw [hx] at ex
   cases hb : jl E.P t e.size with
   | false => rw [hb] at h; cases h
   | true =>
    rw [hb] at h
    simp only [ak] at h
    split at h
    ·rename_i a ha
     split at h
     ·rename_i b j5
      obtain ⟨zs, hz, h⟩ := aS h
      obtain ⟨c1, c2, c3, c4, rfl⟩ := mu hz
      exact .of _ h (DF ex (dQ hb) (fA bG (dflt := 0) ha c1 _) (fA bG j5 c3 _) c2 c4)
     ·cases h
    ·cases h
  ·rename_i o n hx
   cases htr : tr with
   | true =>
    rw [htr] at h
    simp only [ak] at h
    rw [hx] at ex
    split at h
    ·cases h
    ·split at h
     ·rename_i T e m xs ho
      cases hb : Nat.beq n m && jl E.P t e.size with
      | false => rw [hb] at h; cases h
      | true =>
       rw [hb] at h
       simp only [bg] at hb
       have hm := bo hb.1
       subst hm
       simp only [ak] at h
       split at h
       ·rename_i b j5
        obtain ⟨zs, hz, h⟩ := aS h
        obtain ⟨c1, c2, c3, c4, rfl⟩ := mu hz
        have := tp (dst := dst) (ty := ty) (pos := pos) (cc := cc) (gd := gd) ex ho (dQ hb.2) (fA bG j5 c3 _) c4
        rw [show (xs.take b.toNat).drop (0 : Int).toNat = xs.take b.toNat from rfl] at h
        exact .of _ h this
       ·cases h
     ·cases h
   | false =>
   rw [htr] at h
   simp only [ax] at h
   cases hkp : kp with
   | true =>
    rw [hkp] at h
    simp only [ak] at h
    rw [hx] at ex
    split at h
    ·rename_i T e m fz xs ho
     cases hb : Nat.beq n m && jl E.P t e.size with
     | false => rw [hb] at h; cases h
     | true =>
      rw [hb] at h
      simp only [bg] at hb
      have hm := bo hb.1
      subst hm
      simp only [ak] at h
      split at h
      ·rename_i a ha
       split at h
       ·rename_i b j5
        obtain ⟨p, hz, h⟩ := aS h
        obtain ⟨c1, c2, c3, rfl⟩ := Ax hz
        exact .of _ h (xT ex ho (dQ hb.2) (fA bG (dflt := 0) ha c1 _) (fA bG j5 (by omega) _) (by omega) (by omega))
       ·cases h
      ·cases h
    ·cases h
   | false =>
   rw [hkp] at h
   simp only [ax] at h
   split at h
   ·rename_i T e m xs ho
    cases hb : Nat.beq n m && jl E.P t e.size with
    | false => rw [hb] at h; cases h
    | true =>
     rw [hb] at h
     simp only [bg] at hb
     have hm := bo hb.1
     subst hm
     simp only [ak] at h
     split at h
     ·rename_i a ha
      split at h
      ·rename_i b j5
       obtain ⟨zs, hz, h⟩ := aS h
       obtain ⟨c1, c2, c3, c4, rfl⟩ := mu hz
       refine .frozen (e := ⟨.d (.slice e) ((xs.take b.toNat).drop a.toNat), [o], [], s.nx⟩) [o] h ?_
       rw [bj] at ho
       exact DN (by rw [mw bG, hx]; exact .os ho) _ (by rw [mw bG, hx]; exact fun _ h => h) (dQ hb.2) (fA bG (dflt := 0) ha c1 _) (fA bG j5 c3 _) c2 c4
      ·cases h
     ·cases h
   ·cases h
  ·rename_i o n j q hx
   rw [hx] at ex
   split at h
   ·rename_i T e m fz xs ho
    cases hb : Nat.beq n m && jl E.P t e.size with
    | false => rw [hb] at h; cases h
    | true =>
     rw [hb] at h
     simp only [bg] at hb
     have hm := bo hb.1
     subst hm
     simp only [ak] at h
     split at h
     ·rename_i a ha
      split at h
      ·rename_i b j5
       obtain ⟨p, hz, h⟩ := aS h
       obtain ⟨c1, c2, c3, rfl⟩ := Ax hz
       cases hb3 : Nat.ble (j + q) xs.length with
       | false => rw [hb3] at h; cases h
       | true =>
        rw [hb3] at h
        have := Nat.le_of_ble_eq_true hb3
        exact .of _ h (Aw ex ho (dQ hb.2) (fA bG (dflt := 0) ha c1 _) (fA bG j5 (by omega) _) (by omega) (by omega))
      ·cases h
     ·cases h
   ·cases h
  ·cases h
 ·rename_i m
  split at h
  ·cases h
  ·rename_i hh
   cases hb : qn E s hh && qn E s m with
   | false => rw [hb] at h; exact Ay bG h
   | true =>
    rw [hb] at h
    simp only [ak] at h
    simp only [bg] at hb
    split at h
    ·cases h
    ·split at h
     ·rename_i T hT
      split at h
      ·rename_i e xs hs
       cases hb3 : jl E.P t e.size with
       | false => rw [hb3] at h; cases h
       | true =>
        rw [hb3] at h
        exact .of _ h (xH ex (m4 hs) (dQ hb3) rfl (qX bG hb.1) (qX bG hb.2))
      ·cases h
     ·cases h
def xU : Operand -> Operand -> Bool
 | .tmp a, .tmp b => Nat.beq a b
 | _, _ => false
theorem Az {x y : Operand} (h : xU x y = true) : x = y := by
 unfold xU at h
 split at h
 ·rw [bo h]
 ·cases h
def qo (E : Env) (t : TypeId) (x y : Operand) (s : LSt) (k : E1 -> Option R) : Option R :=
 match HV E t, s.ev E x, s.ev E y with
 | some (T, e), .d (.int _) n, .d (.int _) n' => bif xU x y || n == n' then (mk n (kQ e)).bind fun l => lY s.hp s.nx (k ⟨.os s.nx 0, [], [(s.nx, .arr T e 0 false l)], s.nx + 1⟩) else none
 | _, _, _ => none
theorem H7 (hE : E.OK) (bG : C.Γ = E.gam) {d : Nat} {t : TypeId} {x y : Operand} (h : qo E t x y s k = some r) : dV E C ⟨some d, .makeSlice t x y, ty, pos, cc, gd⟩ s k r := by
 unfold qo at h
 have ex := bN bG s x
 have ey := bN bG s y
 split at h
 ·rename_i T e k1 n k2 n' hT hx hy
  rw [hx] at ex; rw [hy] at ey
  cases hb : xU x y || n == n' with
  | false => rw [hb] at h; cases h
  | true =>
   rw [hb] at h
   obtain ⟨l, hl, h⟩ := aS h
   obtain ⟨h0, h⟩ := hZ h
   obtain ⟨m1, m2, rfl⟩ := Qa hl
   have hn : n' = n := by
    simp only [Bool.or_eq_true, beq_iff_eq] at hb
    rcases hb with hb | hb
    ·have := Az hb
     subst this
     rw [hx] at hy; cases hy; rfl
    ·exact hb.symm
   subst hn
   exact .of _ h (xJ (jJ hE hT) h0 ex ey m1 m2)
 ·cases h
def V2 (e e' : Ty) (xs : List e.den) : Option (List e'.den) := if h : e = e' then some (h ▸ xs) else none
theorem tq {P : Program} {s : ASt} {x : Operand} {t : TypeId} {T : TypeId} (hx : s.ev C x = .nils \/ s.ev C x = .emp) (ht : P.underlying t = some (.slice T)) :
  bL P C ⟨dst, .call ⟨.builtin .cap, #[x], #[t]⟩, ty, pos, cc, gd⟩ ⟨dst, .d (.int .i64) 0, [], []⟩ s :=
 aY fun w im μ hp ρ h => by
  obtain ⟨ad, hv⟩ : ∃ ad, ρ x = .slice ad 0 0 := by
   have hrx := h x (by simp [Op.operands, Call.operands])
   rcases hx with hx | hx <;> rw [hx] at hrx <;> obtain ⟨hr, cY⟩ := hrx <;> simp only [RepA] at hr
   ·exact ⟨none, aL hr cY⟩
   ·obtain ⟨ad, hr⟩ := hr; exact ⟨ad, aL hr cY⟩
  refine ⟨.int .i64 0, ?_, ⟨by simp [RepA, aM, Value.cells], rfl⟩⟩
  simp [execOp, resolve, invoke, builtin, hv, Builtin.cap_, run_underlying ht, goInt]
theorem rA {P : Program} {s : ASt} {d : Tmp} {o : Nat} {t T tn : TypeId} {x y : Operand} {e : Ty} {kn kq : IntKind} {n : Int} (ht : ElT P t T e) (htn : P.underlying tn = some (.int kn)) (h0 : s.hp o = none) (hx : s.ev C x = .nils) (hy : s.ev C y = .d (.int kq) n)
  (hn0 : 0 < n) (hn : n <= lim) : bL P C ⟨some d, .call ⟨.builtin .append, #[x, y], #[t, tn]⟩, ty, pos, cc, gd⟩ ⟨some d, .os o 0, [], [(o, .arr T e 0 false (List.replicate n.toNat (kQ e)))]⟩ s := by
 intro s1 fX gm im μ a w hi hd
 have sA : s1.ev C x = .nils := (fX x (by simp [Op.operands, Call.operands])).trans hx
 have E8 : s1.hp o = none := (gm o (.inr (by simp))).trans h0
 have e2 := fa (((fX y (by simp [Op.operands, Call.operands])).trans hy) ▸ hi.ev y)
 obtain ⟨hr, cY⟩ := sA ▸ hi.ev x
 simp only [RepA] at hr
 have hv := aL hr cY
 obtain ⟨i, z, iT, ma, xq, hz1, JZ⟩ := ht.info
 obtain ⟨m, rfl⟩ := Int.eq_ofNat_of_zero_le (Int.le_of_lt hn0)
 have hm : m <= 4294967296 := by unfold lim at hn; omega
 have hm0 : 0 < m := by omega
 have hzsz : z.cells.size = e.size := by rw [← Array.length_toList, JZ, (cu (default : World) (fun _ => True) e).length]
 have hbytes : m * i.bytes <= 4294967296 * 4096 := Nat.mul_le_mul hm xq
 have hrun := Go.Lib.run_append_grow_zeros (P := P) w t tn ty T i z kq kn ht.und htn iT hz1 none 0 0 [] (run_firstCells_none _ _ _ _ _) m hm0 (by rw [ma]; exact ht.pos) (by omega) (by omega) (by omega) (growslice_fits (by omega) (by rw [Nat.zero_add]; omega))
 simp only [Nat.zero_add] at hrun
 have zJ := grownCap_ge w m 0 T
 have HC := grownCap_le_maxLen w m 0 T (by unfold maxLen; omega)
 have hzc := kB JZ m
 have hfl : (Builtin.zeroCells z.cells m).toList = (List.replicate m (fv e)).flatten := by
  rw [← hzc]; unfold Builtin.zeroCells; rw [hzsz]
 have hrep := aU.replicate (cu w im e) m
 have hlen := hrep.length (aM.length e)
 have hnew := hi.newArr (w1 := w.drew) rfl rfl rfl rfl (hd d rfl) E8 (cells := (#[] ++ Builtin.zeroCells z.cells m ++ Builtin.zeroCells z.cells (grownCap w m 0 T - m))) (T := T) (e := e) (xs := List.replicate m (kQ e)) (cap := grownCap w m 0 T) (by simpa using zJ) HC (by
   simp only [Array.size_append, size_zeroCells, hzsz, ← Nat.add_mul, Array.size_empty, Nat.zero_add]
   congr 1
   omega) (by
   simp only [Array.toList_append, hfl, List.nil_append]
   rw [← hlen, List.take_left]
   exact hrep)
 rw [List.length_replicate] at hnew
 refine ⟨_, _, im, _, .inl ?_, hnew⟩
 simp only [execOp, resolve, invoke, builtin, Sem.run_bind, Sem.run_pure, Result.andThen_ok, List.map_toArray, List.map_cons, List.map_nil, hv, e2, hrun]
def wz (E : Env) (t : TypeId) (x : Operand) (s : LSt) (k : E1 -> Option R) : Option R :=
 match E.P.underlying t with
 | some (.slice _) => (match s.ev E x with | .nils => k (s.pv (.d (.int .i64) 0)) | .emp => k (s.pv (.d (.int .i64) 0)) | _ => none)
 | _ => none
theorem KE (bG : C.Γ = E.gam) {t : TypeId} {x : Operand} (h : wz E t x s k = some r) : dV E C ⟨dst, .call ⟨.builtin .cap, #[x], #[t]⟩, ty, pos, cc, gd⟩ s k r := by
 unfold wz at h
 have ex := bN bG s x
 split at h
 ·rename_i T hT
  split at h
  ·rename_i hx; exact .of _ h (tq (.inl (ex.trans hx)) hT)
  ·rename_i hx; exact .of _ h (tq (.inr (ex.trans hx)) hT)
  ·cases h
 ·cases h
def jv (E : Env) (t tn : TypeId) (x y : Operand) (s : LSt) (k : E1 -> Option R) : Option R :=
 match E.P.underlying tn with
 | some (.int _) =>
  (match HV E t with
  | some (T, e) =>
   (match s.ev E x, s.ev E y with
   | .nils, .d (.int _) n => bif decide (0 < n) && decide (n <= lim) then lY s.hp s.nx (k ⟨.os s.nx 0, [], [(s.nx, .arr T e 0 false (List.replicate n.toNat (kQ e)))], s.nx + 1⟩) else none
   | _, _ => none)
  | none => none)
 | _ => none
theorem xV (hE : E.OK) (bG : C.Γ = E.gam) {d : Tmp} {t tn : TypeId} {x y : Operand} (h : jv E t tn x y s k = some r) : dV E C ⟨some d, .call ⟨.builtin .append, #[x, y], #[t, tn]⟩, ty, pos, cc, gd⟩ s k r := by
 unfold jv at h
 have ex := bN bG s x
 have ey := bN bG s y
 split at h
 ·rename_i kn hn
  split at h
  ·rename_i T e hT
   split at h
   ·rename_i kk n hx hy
    rw [hx] at ex; rw [hy] at ey
    cases hb : decide (0 < n) && decide (n <= (lim : Int)) with
    | false => rw [hb] at h; cases h
    | true =>
     rw [hb] at h
     simp only [bg, decide_eq_true_eq] at hb
     obtain ⟨h0, h⟩ := hZ h
     exact .of _ h (rA (jJ hE hT) hn h0 ex ey hb.1 hb.2)
   ·cases h
  ·cases h
 ·cases h
def kU (E : Env) (t t2 : TypeId) (x y : Operand) (s : LSt) (k : E1 -> Option R) : Option R :=
 bif Nat.beq t t2 then
  (match HV E t with
  | some (T, e) =>
   (match Xw s.hp (s.ev E y) e with
   | some ys =>
    (match s.ev E x with
    | .nils => (app [] ys).bind fun zs => lY s.hp s.nx (k ⟨.os s.nx 0, (s.ev E y).objs, [(s.nx, .arr T e 0 false zs)], s.nx + 1⟩)
    | .emp => (app [] ys).bind fun zs => lY s.hp s.nx (k ⟨.os s.nx 0, (s.ev E y).objs, [(s.nx, .arr T e 0 false zs)], s.nx + 1⟩)
    | .os o n =>
     (match az s.hp o with
     | some (.arr T' e' m false xs) =>
      bif Nat.beq T T' && Nat.beq n m then
       (match V2 e' e xs with
       | some xs => (app xs ys).bind fun zs => k ⟨.os o (n + 1), (s.ev E y).objs, [(o, .arr T e (n + 1) false zs)], s.nx⟩
       | none => none)
      else none
     | _ => none)
    | _ => none)
   | none => none)
  | none => none)
 else none
theorem AA (hE : E.OK) (bG : C.Γ = E.gam) {t t2 : TypeId} {x y : Operand} (h : kU E t t2 x y s k = some r) : dV E C ⟨dst, .call ⟨.builtin .append, #[x, y], #[t, t2]⟩, ty, pos, cc, gd⟩ s k r := by
 unfold kU at h
 have ex := bN bG s x
 have ey := bN bG s y
 cases hb : Nat.beq t t2 with
 | false => rw [hb] at h; cases h
 | true =>
  rw [hb] at h
  have := bo hb
  subst this
  simp only [ak] at h
  split at h
  ·rename_i T e hT
   split at h
   ·rename_i ys hys
    have hsrc := HS hys
    split at h
    ·rename_i hx
     rw [hx] at ex
     obtain ⟨zs, hz, h⟩ := aS h
     obtain ⟨h0, h⟩ := hZ h
     obtain ⟨a1, rfl⟩ := sY hz
     exact .of _ h (nR (jJ hE hT) h0 (.inl ex) ey hsrc (by simpa using a1))
    ·rename_i hx
     rw [hx] at ex
     obtain ⟨zs, hz, h⟩ := aS h
     obtain ⟨h0, h⟩ := hZ h
     obtain ⟨a1, rfl⟩ := sY hz
     exact .of _ h (nR (jJ hE hT) h0 (.inr ex) ey hsrc (by simpa using a1))
    ·rename_i o n hx
     rw [hx] at ex
     split at h
     ·rename_i T' e' m xs ho
      cases j5 : Nat.beq T T' && Nat.beq n m with
      | false => rw [j5] at h; cases h
      | true =>
       rw [j5] at h
       simp only [bg] at j5
       have h1 := bo j5.1
       have h2 := bo j5.2
       subst h1 h2
       simp only [ak] at h
       unfold V2 at h
       by_cases he : e' = e
       ·subst he
        simp only [dite_true] at h
        obtain ⟨zs, hz, h⟩ := aS h
        obtain ⟨a1, rfl⟩ := sY hz
        exact .of _ h (xK (jJ hE hT) ex ho ey hsrc a1)
       ·rw [dif_neg he] at h; cases h
     ·cases h
    ·cases h
   ·cases h
  ·cases h
def wA (E : Env) (t : TypeId) (x : Operand) (s : LSt) (k : E1 -> Option R) : Option R :=
 match s.ev E x with
 | .d .str l => bif qW E.P t then k (s.pv (.d (.int .i64) (l.length : Int))) else none
 | a =>
  (match E.P.underlying t with
  | some (.slice T) => (match HT s.hp a (lk E.ty T) with | some ⟨e, xs⟩ => bif jl E.P t e.size then k (s.pr (.d (.int .i64) (xs.length : Int)) a.objs) else none | none => none)
  | _ => none)
theorem KF (bG : C.Γ = E.gam) {t : TypeId} {x : Operand} (h : wA E t x s k = some r) : dV E C ⟨dst, .call ⟨.builtin .len, #[x], #[t]⟩, ty, pos, cc, gd⟩ s k r := by
 unfold wA at h
 have ex := bN bG s x
 split at h
 ·rename_i l hx
  rw [hx] at ex
  cases hb : qW E.P t with
  | false => rw [hb] at h; cases h
  | true => rw [hb] at h; exact .of _ h (DC ex (og hb))
 ·split at h
  ·rename_i T hT
   split at h
   ·rename_i e xs hs
    cases hb : jl E.P t e.size with
    | false => rw [hb] at h; cases h
    | true => rw [hb] at h; exact .of _ h (xF ex (m4 hs) (dQ hb))
   ·cases h
  ·cases h
def wB (E : Env) (x y : Operand) (s : LSt) (k : E1 -> Option R) : Option R :=
 match s.ev E x, s.ev E y with
 | .d (.int k1) a, .d (.int _) b => k (s.pv (.d (.int k1) (if b > a then b else a)))
 | _, _ => none
theorem KG (bG : C.Γ = E.gam) {ts : Array TypeId} {x y : Operand} (h : wB E x y s k = some r) : dV E C ⟨dst, .call ⟨.builtin .max, #[x, y], ts⟩, ty, pos, cc, gd⟩ s k r := by
 unfold wB at h
 have ex := bN bG s x
 have ey := bN bG s y
 split at h
 ·rename_i k1 a k2 b hx hy
  rw [hx] at ex; rw [hy] at ey
  exact .of _ h (Xu ex ey)
 ·cases h
def wC (E : Env) (x y : Operand) (s : LSt) (k : E1 -> Option R) : Option R :=
 match s.ev E x, s.ev E y with
 | .d (.int k1) a, .d (.int _) b => k (s.pv (.d (.int k1) (if b < a then b else a)))
 | _, _ => none
theorem KH (bG : C.Γ = E.gam) {ts : Array TypeId} {x y : Operand} (h : wC E x y s k = some r) : dV E C ⟨dst, .call ⟨.builtin .min, #[x, y], ts⟩, ty, pos, cc, gd⟩ s k r := by
 unfold wC at h
 have ex := bN bG s x
 have ey := bN bG s y
 split at h
 ·rename_i k1 a k2 b hx hy
  rw [hx] at ex; rw [hy] at ey
  exact .of _ h (Xv ex ey)
 ·cases h
def rU (P : Program) : List Field -> Option (List (Nat × Nat))
 | [] => some []
 | f :: l => match P.info? f.type with | some i => (match rU P l with | some r => some ((f.offset, i.size) :: r) | none => none) | none => none
theorem my {P : Program} : ∀ {l : List Field} {ps : List (Nat × Nat)}, rU P l = some ps -> l.length = ps.length /\ ∀ (i : Nat) (f : Field) (p : Nat × Nat), l[i]? = some f -> ps[i]? = some p -> f.offset = p.1 /\ ∃ inf, P.info? f.type = some inf /\ inf.size = p.2
 | [], ps, h => by cases h; exact ⟨rfl, fun i f p hf => by simp at hf⟩
 | f :: l, ps, h => by
  simp only [rU] at h
  split at h
  ·rename_i i hi
   split at h
   ·rename_i rr hr
    cases h
    obtain ⟨h1, h2⟩ := my hr
    refine ⟨by simp [h1], fun j f' p hf hp => ?_⟩
    cases j with
    | zero =>
     simp only [List.getElem?_cons_zero, Option.some.injEq] at hf hp
     subst hf hp
     exact ⟨rfl, i, hi, rfl⟩
    | succ j => exact h2 j f' p (by simpa using hf) (by simpa using hp)
   ·cases h
  ·cases h
def bld (E : Env) (s : LSt) (ps : List (Nat × Nat)) : List (Nat × Operand) -> AV -> (AV -> Option R) -> Option R
 | [], v, k => k v
 | (i, x) :: l, v, k =>
  bif (s.ev E x).plain then
   (match ps[i]? with
   | some (off, sz) => bif Nat.beq (s.ev E x).asize sz then fx v [i] (s.ev E x) (fun off' v' => bif Nat.beq off' off then bld E s ps l v' k else none) else none
   | none => none)
  else none
theorem AB (bG : C.Γ = E.gam) {ps : List (Nat × Nat)} : ∀ {l : List (Nat × Operand)} {v : AV} {k : AV -> Option R}, bld E s ps l v k = some r -> ∃ v', qi C s.toA ps l v v' /\ k v' = some r
 | [], v, k, h => ⟨v, .nil, h⟩
 | (i, x) :: l, v, k, h => by
  simp only [bld] at h
  cases hp : (s.ev E x).plain with
  | false => rw [hp] at h; cases h
  | true =>
   rw [hp] at h
   simp only [ak] at h
   split at h
   ·rename_i off sz PG
    cases hz : Nat.beq (s.ev E x).asize sz with
    | false => rw [hz] at h; cases h
    | true =>
     rw [hz] at h
     obtain ⟨off', v', h1, h2⟩ := m6 v [i] _ _ r h
     cases hb : Nat.beq off' off with
     | false => rw [hb] at h2; cases h2
     | true =>
      rw [hb] at h2
      obtain ⟨v'', h3, h4⟩ := AB bG h2
      exact ⟨v'', .cons (bN bG s x) hp PG (bo hz) h1 (bo hb) h3, h4⟩
   ·cases h
def xW (E : Env) (s : LSt) (e : Ty) (n : Nat) : List (Nat × Operand) -> Option (List (Nat × e.den))
 | [] => some []
 | (i, x) :: l => bif Nat.blt i n then (match s.ev E x with | .d τ y => (if h : τ = e then (match xW E s e n l with | some r => some ((i, h ▸ y) :: r) | none => none) else none) | _ => none) else none
theorem qY {e : Ty} {n : Nat} : ∀ {l : List (Nat × Operand)} {ys : List (Nat × e.den)}, xW E s e n l = some ys -> l.length = ys.length /\ ∀ (k i : Nat) (x : Operand), l[k]? = some (i, x) -> ∃ y, ys[k]? = some (i, y) /\ s.ev E x = .d e y /\ i < n
 | [], ys, h => by cases h; exact ⟨rfl, fun k i x hk => by simp at hk⟩
 | (i, x) :: l, ys, h => by
  simp only [xW] at h
  cases hb : Nat.blt i n with
  | false => rw [hb] at h; cases h
  | true =>
   rw [hb] at h
   simp only [ak] at h
   split at h
   ·rename_i τ y hy
    split at h
    ·rename_i he
     subst he
     split at h
     ·rename_i rr hr
      cases h
      obtain ⟨h1, h2⟩ := qY hr
      refine ⟨by simp [h1], fun k j u hk => ?_⟩
      cases k with
      | zero =>
       simp only [List.getElem?_cons_zero, Option.some.injEq, Prod.mk.injEq] at hk
       obtain ⟨rfl, rfl⟩ := hk
       exact ⟨y, rfl, hy, Nat.le_of_ble_eq_true hb⟩
      | succ k => exact h2 k j u (by simpa using hk)
     ·cases h
    ·cases h
   ·cases h
def nd (E : Env) (t : TypeId) (parts : Array (Nat × Operand)) (s : LSt) (k : E1 -> Option R) : Option R :=
 match E.P.underlying t, lk E.ty t with
 | some (.struct fs), some τ =>
  (match rU E.P fs.toList with
  | some ps => bld E s ps parts.toList (oY τ) (fun v => bif v.isAgg then k (s.pv v) else none)
  | none => none)
 | some (.array _ _), some (.arr n e) => bif H6 E t n e then (match xW E s e n parts.toList with | some ys => k (s.pv (.d (.arr n e) (jF (List.replicate n (kQ e)) ys))) | none => none) else none
 | _, _ => none
theorem DS (hE : E.OK) (bG : C.Γ = E.gam) {t : TypeId} {parts : Array (Nat × Operand)} (h : nd E t parts s k = some r) : dV E C ⟨dst, .build t parts, ty, pos, cc, gd⟩ s k r := by
 unfold nd at h
 split at h
 ·rename_i fs τ hu hτ
  split at h
  ·rename_i ps PG
   obtain ⟨v, h1, h2⟩ := AB bG h
   obtain ⟨i, z, g1, g2, g3, g4, g5⟩ := (hE.ty _ (fy hτ)).info
   cases hv : v.isAgg with
   | false => rw [hv] at h2; cases h2
   | true =>
    rw [hv] at h2
    exact .of _ h2 (Kv ⟨fs, hu, (my PG).1, (my PG).2⟩ ⟨i, z, g1, g4, g5⟩ h1 hv)
  ·cases h
 ·rename_i T m n e hu hτ
  cases hb : H6 E t n e with
  | false => rw [hb] at h; cases h
  | true =>
   rw [hb] at h
   simp only [ak] at h
   split at h
   ·rename_i ys hys
    obtain ⟨h1, h2⟩ := qY hys
    exact .of _ h (An (Av hE hb) h1 fun k i x hk => by
     obtain ⟨y, g1, g2, g3⟩ := h2 k i x hk
     have ex := bN bG s x
     exact ⟨y, g1, by rw [← g2]; exact ex, g3⟩)
   ·cases h
 ·cases h
def xX (E : Env) (hp : LHp) (s : LSt) (e : Ty) (n : Nat) : List (Nat × Operand) -> Option (List (Nat × e.den))
 | [] => some []
 | (i, x) :: l => bif Nat.blt i n then (match toD hp (s.ev E x) e with | some y => (match xX E hp s e n l with | some r => some ((i, y) :: r) | none => none) | none => none) else none
theorem qZ {hp : LHp} {e : Ty} {n : Nat} : ∀ {l : List (Nat × Operand)} {ys : List (Nat × e.den)}, xX E hp s e n l = some ys -> l.length = ys.length /\ ∀ (k i : Nat) (x : Operand), l[k]? = some (i, x) -> ∃ y, ys[k]? = some (i, y) /\ iJ (az hp) (s.ev E x) e y /\ i < n
 | [], ys, h => by cases h; exact ⟨rfl, fun k i x hk => by simp at hk⟩
 | (i, x) :: l, ys, h => by
  simp only [xX] at h
  cases hb : Nat.blt i n with
  | false => rw [hb] at h; cases h
  | true =>
   rw [hb] at h
   simp only [ak] at h
   split at h
   ·rename_i y hy
    split at h
    ·rename_i rr hr
     cases h
     obtain ⟨h1, h2⟩ := qZ hr
     refine ⟨by simp [h1], fun k j x' hk => ?_⟩
     cases k with
     | zero =>
      simp only [List.getElem?_cons_zero, Option.some.injEq, Prod.mk.injEq] at hk
      obtain ⟨rfl, rfl⟩ := hk
      exact ⟨y, rfl, iK hy, Nat.le_of_ble_eq_true hb⟩
     | succ k => simpa using h2 k j x' (by simpa using hk)
    ·cases h
   ·cases h
def oh (E : Env) (s : LSt) : List (Nat × Operand) -> List Nat
 | [] => []
 | (_, x) :: l => (s.ev E x).osl ++ oh E s l
theorem tt {x : Operand} : ∀ {l : List (Nat × Operand)} {k i : Nat}, l[k]? = some (i, x) -> ∀ o ∈ (s.ev E x).osl, o ∈ oh E s l
 | [], _, _, h, _, _ => by simp at h
 | (j, y) :: l, 0, i, h, o, ho => by
  simp only [List.getElem?_cons_zero, Option.some.injEq, Prod.mk.injEq] at h
  obtain ⟨rfl, rfl⟩ := h
  simp [oh, ho]
 | (j, y) :: l, k + 1, i, h, o, ho => by
  simp only [oh, List.mem_append]
  exact .inr (tt (by simpa using h) o ho)
def wD (E : Env) (t : TypeId) (n : Nat) (parts : Array (Nat × Operand)) (s : LSt) (k : E1 -> Option R) : Option R :=
 match HV E t with
 | some (T, e) =>
  bif Nat.beq n 0 && parts.toList.isEmpty then k (s.pv .emp) else
   let ol := oh E s parts.toList
   let fz := bZ s.hp ol
   (match xX E (fz ++ s.hp) s e n parts.toList with
   | some ys => bif Nat.ble (n * e.size) (2 ^ 24) then lY (fz ++ s.hp) s.nx (k ⟨.os s.nx 0, ol, [(s.nx, .arr T e 0 false (jF (List.replicate n (kQ e)) ys))] ++ fz, s.nx + 1⟩) else none
   | none => none)
 | none => none
theorem KI (hE : E.OK) (bG : C.Γ = E.gam) {d : Nat} {t : TypeId} {n : Nat} {parts : Array (Nat × Operand)} (h : wD E t n parts s k = some r) : dV E C ⟨some d, .buildSlice t n parts, ty, pos, cc, gd⟩ s k r := by
 unfold wD at h
 split at h
 ·rename_i T e hT
  cases PD : Nat.beq n 0 && parts.toList.isEmpty with
  | true =>
   rw [PD] at h
   simp only [bg] at PD
   have hn := bo PD.1
   subst hn
   have hp : parts = #[] := by apply Array.ext'; simpa using PD.2
   subst hp
   exact .of _ h (Qg (jJ hE hT))
  | false =>
   rw [PD] at h
   simp only at h
   split at h
   ·rename_i ys hys
    cases hb : Nat.ble (n * e.size) (2 ^ 24) with
    | false => rw [hb] at h; cases h
    | true =>
     rw [hb] at h
     obtain ⟨h0, h⟩ := hZ h
     obtain ⟨g1, g2⟩ := qZ hys
     refine .frozen (e := ⟨.os s.nx 0, oh E s parts.toList, [(s.nx, .arr T e 0 false (jF (List.replicate n (kQ e)) ys))], s.nx + 1⟩) (oh E s parts.toList) h ?_
     rw [bj] at h0 g2
     exact tf _ (jJ hE hT) h0 (Nat.le_of_ble_eq_true hb) g1 (fun k i x hk => by
      obtain ⟨y, y1, y2, y3⟩ := g2 k i x hk
      exact ⟨y, y1, by rw [mw bG]; exact y2, by rw [mw bG]; exact tt hk, y3⟩) rfl
   ·cases h
 ·cases h
def jw (E : Env) (x : Operand) (i : Nat) (s : LSt) (k : E1 -> Option R) : Option R :=
 match s.ev E x with
 | .tup l => (match l[i]? with | some a => k (s.pv a) | none => none)
 | _ => none
theorem xY (bG : C.Γ = E.gam) {x : Operand} {i : Nat} (h : jw E x i s k = some r) : dV E C ⟨dst, .extract x i, ty, pos, cc, gd⟩ s k r := by
 unfold jw at h
 have ex := bN bG s x
 split at h
 ·rename_i l hx
  rw [hx] at ex
  split at h
  ·rename_i a ha
   exact .of _ h (DB ex ha)
  ·cases h
 ·cases h
def evs (E : Env) (s : LSt) : List Operand -> List AV
 | [] => []
 | x :: l => s.ev E x :: evs E s l
theorem lJ (bG : C.Γ = E.gam) : ∀ l : List Operand, l.map (s.toA.ev C) = evs E s l
 | [] => rfl
 | x :: l => by simp only [List.map_cons, evs, bN bG, lJ bG l]
def KJ (l : List AV) : Bool := l.all AV.plain
def qp (E : Env) (f : Fn) (first cap : Array Operand) (s : LSt) (k : E1 -> Option R) : Option R :=
 match first.toList with
 | [] => bif KJ (evs E s cap.toList) then k (s.pv (.fn f [] (evs E s cap.toList))) else none
 | _ => none
theorem H8 (bG : C.Γ = E.gam) {f : Fn} {first cap : Array Operand} (h : qp E f first cap s k = some r) : dV E C ⟨dst, .makeFunc f first cap, ty, pos, cc, gd⟩ s k r := by
 unfold qp at h
 split at h
 ·rename_i hf
  have : first = #[] := by apply Array.ext'; simpa using hf
  subst this
  cases hb : KJ (evs E s cap.toList) with
  | false => rw [hb] at h; cases h
  | true =>
   rw [hb] at h
   exact .of _ h (Al (lJ bG _) (fun a ha => List.all_eq_true.1 hb a ha))
 ·cases h
def H9 (P : Program) (t : TypeId) : Bool := match P.underlying t with | some (.interface _) => false | some _ => true | none => false
theorem wE {P : Program} {t : TypeId} (h : H9 P t = true) : Xt P t := by
 unfold H9 at h
 split at h
 ·cases h
 ·rename_i d hd hn
  exact ⟨d, hn, by split <;> simp_all⟩
 ·cases h
def nf (E : Env) (t : TypeId) (x : Operand) (s : LSt) (k : E1 -> Option R) : Option R :=
 bif (s.ev E x).plain && H9 E.P t then k (s.pv (.iface t (s.ev E x))) else none
theorem DT (bG : C.Γ = E.gam) {t : TypeId} {x : Operand} (h : nf E t x s k = some r) : dV E C ⟨dst, .makeInterface t x, ty, pos, cc, gd⟩ s k r := by
 unfold nf at h
 cases hb : (s.ev E x).plain && H9 E.P t with
 | false => rw [hb] at h; cases h
 | true =>
  rw [hb] at h
  simp only [bg] at hb
  exact .of _ h (xP (bN bG s x) hb.1 (wE hb.2))
def kV (E : Env) (x : Operand) (t : TypeId) (ok : Bool) (s : LSt) (k : E1 -> Option R) : Option R :=
 match s.ev E x, ok with
 | .iface t' (.d (.int kk) n), true => bif Nat.beq t' t && H9 E.P t then k (s.pv (.tup [.d (.int kk) n, .d .bool true])) else none
 | _, _ => none
theorem AD (bG : C.Γ = E.gam) {x : Operand} {xt t : TypeId} {ok : Bool} (h : kV E x t ok s k = some r) : dV E C ⟨dst, .typeAssert x xt t ok, ty, pos, cc, gd⟩ s k r := by
 unfold kV at h
 have ex := bN bG s x
 split at h
 ·rename_i t' kk n hx
  rw [hx] at ex
  cases hb : Nat.beq t' t && H9 E.P t with
  | false => rw [hb] at h; cases h
  | true =>
   rw [hb] at h
   simp only [bg] at hb
   have := bo hb.1
   subst this
   exact .of _ h (vy ex (wE hb.2))
 ·cases h
theorem tu {P : Program} {s : ASt} {x : Operand} {o m i : Nat} {T : TypeId} {e : Ty} {fz : Bool} {xs : List e.den} (hx : s.ev C x = .oe o m i) (ho : s.hp o = some (.arr T e m fz xs)) : bL P C ⟨dst, .nilCheck x, ty, pos, cc, gd⟩ ⟨dst, .oe o m i, [o], []⟩ s :=
 dC [o] fun w im μ hp ρ h hk ef => by
  have hr0 : bC w im μ hp (.oe o m i) (ρ x) := hx ▸ h x (by simp [Op.operands])
  have Dh := hr0
  obtain ⟨hr, cY⟩ := Dh
  have rm : hp o = some (.arr T e m fz xs) := (hk o (by simp)).trans ho
  simp only [RepA] at hr
  obtain ⟨T', e', m', z', oP, eZ, hle, u, hc, h1, eQ⟩ := hr
  rw [rm] at eZ
  cases eZ
  obtain ⟨b, cap, iS, rfl⟩ := eQ rfl
  have hv : ρ x = .pointer (some ⟨b, i * e.size, none⟩) := by
   generalize ρ x = v at hc cY
   cases v <;> simp_all [Value.cells, bh, AV.isAgg]
  exact ⟨ρ x, w, by simp [execOp, hv], rfl, rfl, rfl, rfl, hr0⟩
def wF (E : Env) (x : Operand) (s : LSt) (k : E1 -> Option R) : Option R :=
 match s.ev E x with
 | .op o p off => k (s.pv (.op o p off))
 | .ip τ y => k (s.pv (.ip τ y))
 | .oe o m i => (match az s.hp o with | some (.arr _ _ m' _ _) => bif Nat.beq m m' then k (s.pr (.oe o m i) [o]) else none | _ => none)
 | _ => none
theorem KK (bG : C.Γ = E.gam) {x : Operand} (h : wF E x s k = some r) : dV E C ⟨dst, .nilCheck x, ty, pos, cc, gd⟩ s k r := by
 unfold wF at h
 have ex := bN bG s x
 split at h
 ·rename_i o p off hx
  rw [hx] at ex
  exact .of _ h (sZ ex)
 ·rename_i τ y hx
  rw [hx] at ex
  exact .of _ h (s7 ex)
 ·rename_i o m i hx
  rw [hx] at ex
  split at h
  ·rename_i T e m' fz xs ho
   cases hb : Nat.beq m m' with
   | false => rw [hb] at h; cases h
   | true =>
    rw [hb] at h
    have := bo hb
    subst this
    exact .of _ h (tu ex ho)
  ·cases h
 ·cases h
end
end Go.Vm
