/- Part G of the abstract machine: slices: index, cut, length, literals, make, append. -/
import Derived.Test.YtnkhoojomojbpaaGreatDoorQ6
namespace Go.Vm
def lim : Nat := 4294967296
section
variable {P : Program} {C : Ctx}
def SlT (P : Program) (t : TypeId) (esz : Nat) : Prop := ∃ e i, P.underlying t = some (.slice e) /\ P.info? e = some i /\ i.size = esz
def ArT (P : Program) (t : TypeId) (n esz : Nat) : Prop := ∃ e i, P.underlying t = some (.array n e) /\ P.info? e = some i /\ i.size = esz
theorem iH.arr {w : World} {im : Nat -> Prop} {μ : Mu} {hp : Hp} {pl : Pl} {T : TypeId} {e : Ty} {m : Nat} {z : Bool} {xs : List e.den} (h : iH w im μ hp pl (.arr T e m z xs)) :
  (∃ a, pl = .nil a /\ xs = []) \/ ∃ b cap cs, (pl = .row b cap \/ pl = .fz b cap) /\ xs.length <= cap /\ cap <= maxLen /\ cp w b 0 cs /\ aU (aM w im e) cs xs := by
 rcases h with h | ⟨_, b, cap, cells, h1, h2, h3, h4, h5, h6⟩ | ⟨_, b, cap, cs, h1, h2, h3, h4, h5, h6⟩
 ·exact .inl h
 ·refine .inr ⟨b, cap, _, .inl h1, h3, h4, ?_, h6⟩
  have := (cJ h2).sub 0 (xs.length * e.size)
  simpa using this
 ·exact .inr ⟨b, cap, cs, .inr h1, h3, h4, h5, h6⟩
inductive Src (hp : Hp) : AV -> (e : Ty) -> List e.den -> Prop
 | d {e : Ty} {xs : List e.den} : Src hp (.d (.slice e) xs) e xs
 | os {o n : Nat} {T : TypeId} {e : Ty} {z : Bool} {xs : List e.den} : hp o = some (.arr T e n z xs) -> Src hp (.os o n) e xs
 | nils {e : Ty} : Src hp .nils e []
 | emp {e : Ty} : Src hp .emp e []
def AV.objs : AV -> List Nat
 | .os o _ => [o]
 | .oe o _ _ => [o]
 | .ow o _ _ _ => [o]
 | .op o _ _ => [o]
 | _ => []
theorem Src.hp {hp bq : Hp} {a : AV} {e : Ty} {xs : List e.den} (h : Src hp a e xs) (hk : ∀ k ∈ a.objs, bq k = hp k) : Src bq a e xs := by
 cases h with
 | d => exact .d
 | os h1 => exact .os ((hk _ (by simp [AV.objs])).trans h1)
 | nils => exact .nils
 | emp => exact .emp
def Xr (w : World) (im : Nat -> Prop) (e : Ty) (xs : List e.den) (v : Value) : Prop :=
 ∃ a cap, v = .slice a xs.length cap /\ xs.length <= cap /\ (xs = [] \/ ∃ b off cs, a = some ⟨b, off, none⟩ /\ cp w b off cs /\ aU (aM w im e) cs xs)
theorem aL {v : Value} {a : Option Addr} {n cap : Nat} (h : v.cells.toList = [.slice a n cap]) (cY : bh v = false) : v = .slice a n cap := by
 cases v <;> simp_all [Value.cells, bh]
theorem Src.sound {w : World} {im : Nat -> Prop} {μ : Mu} {hp : Hp} {a : AV} {e : Ty} {xs : List e.den} {v : Value} (h : Src hp a e xs) (hv : bC w im μ hp a v)
  (ef : ∀ k ob, hp k = some ob -> iH w im μ hp (μ k) ob) : Xr w im e xs v := by
 cases h with
 | d =>
  obtain ⟨hr, cY⟩ := hv
  simp only [RepA, aM] at hr
  obtain ⟨ad, cap, hc, h1, h2, h0, h3⟩ := hr
  refine ⟨ad, cap, aL hc cY, h1, ?_⟩
  cases ad with
  | none => exact .inl h3
  | some ad =>
   rcases h3 with h3 | ⟨hs, _, cs, h4, h5⟩
   ·exact .inl h3
   ·obtain ⟨b, off, sp⟩ := ad
    simp only at hs
    subst hs
    exact .inr ⟨b, off, cs, rfl, h4, h5⟩
 | @os o n T e z xs ho =>
  obtain ⟨hr, cY⟩ := hv
  simp only [RepA] at hr
  obtain ⟨T', e', m', z', oP, eZ, hle, u, hc, h1, eQ⟩ := hr
  rw [ho] at eZ
  cases eZ
  have hpl2 := eQ rfl
  clear eQ
  rcases (ef o _ ho).arr with ⟨ad, bq, rfl⟩ | ⟨b, cap, cs, bq, vl, xp, h3', h4'⟩
  ·rw [bq] at hpl2
   simp only [cI] at hpl2
   subst hpl2
   exact ⟨ad, 0, aL hc cY, Nat.le_refl _, .inl rfl⟩
  ·have hpl3 : u = .slice (some ⟨b, 0, none⟩) xs.length cap := by rcases bq with bq | bq <;> rw [bq] at hpl2 <;> exact hpl2
   subst hpl3
   exact ⟨some ⟨b, 0, none⟩, cap, aL hc cY, vl, .inr ⟨b, 0, _, rfl, h3', h4'⟩⟩
 | nils =>
  obtain ⟨hr, cY⟩ := hv
  simp only [RepA] at hr
  exact ⟨none, 0, aL hr cY, Nat.le_refl _, .inl rfl⟩
 | emp =>
  obtain ⟨hr, cY⟩ := hv
  simp only [RepA] at hr
  obtain ⟨ad, hr⟩ := hr
  exact ⟨ad, 0, aL hr cY, Nat.le_refl _, .inl rfl⟩
variable {s : ASt} {dst : Option Tmp} {ty : TypeId} {pos : String} {cc : Array Edge} {gd : Option (Nat × Bool)}
theorem xF {x : Operand} {t : TypeId} {e : Ty} {xs : List e.den} {av : AV} {esz : Nat} (hx : s.ev C x = av) (hs : Src s.hp av e xs) (ht : SlT P t esz) :
  bL P C ⟨dst, .call ⟨.builtin .len, #[x], #[t]⟩, ty, pos, cc, gd⟩ ⟨dst, .d (.int .i64) (xs.length : Int), av.objs, []⟩ s :=
 dC av.objs fun w im μ hp ρ h hk ef => by
  obtain ⟨ad, cap, hv, _⟩ := (hs.hp hk).sound (hx ▸ h x (by simp [Op.operands, Call.operands])) ef
  obtain ⟨et, i, h1, _, _⟩ := ht
  refine ⟨.int .i64 xs.length, w, ?_, rfl, rfl, rfl, rfl, aN _ _ _ _ (.int .i64 xs.length)⟩
  simp [execOp, resolve, invoke, builtin, hv, Builtin.len_, run_underlying h1, goInt]
theorem DC {x : Operand} {t : TypeId} {l : aj} (hx : s.ev C x = .d .str l) (ht : P.underlying t = some .string) :
  bL P C ⟨dst, .call ⟨.builtin .len, #[x], #[t]⟩, ty, pos, cc, gd⟩ ⟨dst, .d (.int .i64) (l.length : Int), [], []⟩ s :=
 aY fun w im μ hp ρ h => by
  have e1 := bH (u := .string ⟨l.toArray⟩) (by rw [hx]; rfl) (h x (by simp [Op.operands, Call.operands]))
  refine ⟨.int .i64 l.length, ?_, aN _ _ _ _ (.int .i64 l.length)⟩
  have gk : (⟨l.toArray⟩ : ByteArray).size = l.length := by simp [ByteArray.size]
  simp [execOp, resolve, invoke, builtin, e1, Builtin.len_, run_underlying ht, goInt, gk]
theorem fa {w : World} {im : Nat -> Prop} {μ : Mu} {hp : Hp} {k : IntKind} {n : Int} {v : Value} (h : bC w im μ hp (.d (.int k) n) v) : v = .int k n := bH (u := .int k n) rfl h
theorem DD {x y : Operand} {t : TypeId} {e : Ty} {xs : List e.den} {k : IntKind} {n : Int} {z : e.den} (hx : s.ev C x = .d (.slice e) xs) (hy : s.ev C y = .d (.int k) n) (ht : SlT P t e.size) (h0 : 0 <= n) (hz : xs[n.toNat]? = some z) :
  bL P C ⟨dst, .indexAddr t x y, ty, pos, cc, gd⟩ ⟨dst, .ip e z, [], []⟩ s :=
 aY fun w im μ hp ρ h => by
  obtain ⟨hr, cY⟩ := hx ▸ h x (by simp [Op.operands])
  have e2 := fa (hy ▸ h y (by simp [Op.operands]))
  simp only [RepA, aM] at hr
  obtain ⟨ad, cap, hc, _, _, _, h3⟩ := hr
  have hv := aL hc cY
  obtain ⟨et, i, h1, h2, h4⟩ := ht
  have cn : n.toNat < xs.length := (List.getElem?_eq_some_iff.1 hz).1
  cases ad with
  | none => have h3' : xs = [] := h3; rw [h3'] at cn; simp at cn
  | some ad =>
   rcases h3 with h3 | ⟨hs, iR, cs, h5, h6⟩
   ·rw [h3] at cn; simp at cn
   ·obtain ⟨b, off, sp⟩ := ad
    simp only at hs iR h5
    subst hs
    obtain ⟨hg, hgl⟩ := aU.get (aM.length e) h6 hz
    refine ⟨.pointer (some ⟨b, off + n.toNat * e.size, none⟩), ?_, ⟨?_, rfl⟩⟩
    ·have hlt' : n < (xs.length : Int) := by omega
     simp [execOp, hv, e2, Instr.indexAt, asIntOf, run_underlying h1, h0, hlt', sizeOf, typeInfo, h2, h4, df]
    ·simp only [RepA, Value.cells]
     exact ⟨b, off + n.toNat * e.size, rfl, iR, _, h5.sub (n.toNat * e.size) e.size, hg⟩
theorem sR {x y : Operand} {t : TypeId} {m : Nat} {e : Ty} {xs : List e.den} {k : IntKind} {n : Int} {z : e.den} (hx : s.ev C x = .ip (.arr m e) xs) (hy : s.ev C y = .d (.int k) n) (ht : ArT P t m e.size) (h0 : 0 <= n) (hz : xs[n.toNat]? = some z) :
  bL P C ⟨dst, .indexAddr t x y, ty, pos, cc, gd⟩ ⟨dst, .ip e z, [], []⟩ s :=
 aY fun w im μ hp ρ h => by
  obtain ⟨hr, cY⟩ := hx ▸ h x (by simp [Op.operands])
  have e2 := fa (hy ▸ h y (by simp [Op.operands]))
  simp only [RepA] at hr
  obtain ⟨b, off, he, iR, ds, hc, hd⟩ := hr
  have hv : ρ x = .pointer (some ⟨b, off, none⟩) := by
   generalize ρ x = v at he cY
   cases v <;> simp_all [Value.cells, bh, AV.isAgg]
  simp only [aM] at hd
  obtain ⟨hm, hl⟩ := hd
  obtain ⟨et, i, h1, h2, h4⟩ := ht
  have cn : n.toNat < xs.length := (List.getElem?_eq_some_iff.1 hz).1
  obtain ⟨hg, hgl⟩ := aU.get (aM.length e) hl hz
  refine ⟨.pointer (some ⟨b, off + n.toNat * e.size, none⟩), ?_, ⟨?_, rfl⟩⟩
  ·have hlt' : n < (m : Int) := by omega
   simp [execOp, hv, e2, Instr.indexAt, asIntOf, run_underlying h1, h0, hlt', sizeOf, typeInfo, h2, h4, df, Instr.sureAddr]
  ·simp only [RepA, Value.cells]
   exact ⟨b, off + n.toNat * e.size, rfl, iR, _, hc.sub (n.toNat * e.size) e.size, hg⟩
theorem sS {x y : Operand} {t : TypeId} {m o : Nat} {p p' : List Nat} {off off1 off' : Nat} {v : AV} {e : Ty} {xs : List e.den} {k : IntKind} {n : Int} {z : e.den} (hx : s.ev C x = .op o p off) (hp : s.hp o = some (.box v))
  (hs : Sub v p off1 (.d (.arr m e) xs)) (hy : s.ev C y = .d (.int k) n) (ht : ArT P t m e.size) (h0 : 0 <= n) (hz : xs[n.toNat]? = some z) (_hp' : p ++ [n.toNat] = p') (ho : off + n.toNat * e.size = off') :
  bL P C ⟨dst, .indexAddr t x y, ty, pos, cc, gd⟩ ⟨dst, .op o p' off', [o], []⟩ s :=
 dC [o] fun w im μ bq ρ h hk ef => by
  subst ho
  obtain ⟨b, u', vl, xp, hv⟩ := qg (hx ▸ h x (by simp [Op.operands]))
  have e2 := fa (hy ▸ h y (by simp [Op.operands]))
  have rm : bq o = some (.box v) := (hk o (by simp)).trans hp
  obtain ⟨b', cells, T, he, hc, hr⟩ := ef o _ rm
  obtain ⟨c1, c2, c3, _, _, hu⟩ := hs.sound _ hr
  simp only [RepA, aM] at hu
  obtain ⟨et, i, h1, h2, h4⟩ := ht
  have cn : n.toNat < xs.length := (List.getElem?_eq_some_iff.1 hz).1
  have hm := hu.1
  refine ⟨.pointer (some ⟨b, off + n.toNat * e.size, none⟩), w, ?_, rfl, rfl, rfl, rfl, ⟨?_, rfl⟩⟩
  ·have hlt' : n < (m : Int) := by omega
   simp [execOp, hv, e2, Instr.indexAt, asIntOf, run_underlying h1, h0, hlt', sizeOf, typeInfo, h2, h4, df, Instr.sureAddr]
  ·simp only [RepA, Value.cells]
   exact ⟨b, u', vl, xp, rfl⟩
theorem Af {x y : Operand} {t : TypeId} {o m : Nat} {T : TypeId} {e : Ty} {fz : Bool} {xs : List e.den} {k : IntKind} {n : Int} {z : e.den} (hx : s.ev C x = .os o m) (ho : s.hp o = some (.arr T e m fz xs)) (hy : s.ev C y = .d (.int k) n)
  (ht : SlT P t e.size) (h0 : 0 <= n) (hz : xs[n.toNat]? = some z) : bL P C ⟨dst, .indexAddr t x y, ty, pos, cc, gd⟩ ⟨dst, .oe o m n.toNat, [o], []⟩ s :=
 dC [o] fun w im μ hp ρ h hk ef => by
  obtain ⟨hr, cY⟩ := hx ▸ h x (by simp [Op.operands])
  have e2 := fa (hy ▸ h y (by simp [Op.operands]))
  have rm : hp o = some (.arr T e m fz xs) := (hk o (by simp)).trans ho
  simp only [RepA] at hr
  obtain ⟨T', e', m', z', oP, eZ, hle, u, hc, h1, eQ⟩ := hr
  rw [rm] at eZ
  cases eZ
  have hpl2 := eQ rfl
  clear eQ
  have cn : n.toNat < xs.length := (List.getElem?_eq_some_iff.1 hz).1
  obtain ⟨et, i, vl, xp, h4'⟩ := ht
  rcases (ef o _ rm).arr with ⟨ad, bq, rfl⟩ | ⟨b, cap, cs, bq, _⟩
  ·simp at cn
  ·have hpl3 : u = .slice (some ⟨b, 0, none⟩) xs.length cap := by rcases bq with bq | bq <;> rw [bq] at hpl2 <;> exact hpl2
   subst hpl3
   have hv := aL hc cY
   refine ⟨.pointer (some ⟨b, n.toNat * e.size, none⟩), w, ?_, rfl, rfl, rfl, rfl, ⟨?_, rfl⟩⟩
   ·have hlt' : n < (xs.length : Int) := by omega
    simp [execOp, hv, e2, Instr.indexAt, asIntOf, run_underlying vl, h0, hlt', sizeOf, typeInfo, xp, h4', df]
   ·simp only [RepA, Value.cells]
    exact ⟨T, e, m, fz, xs, rm, Nat.le_refl _, _, rfl, rfl, fun _ => ⟨b, cap, bq, rfl⟩⟩
theorem Ag {x y : Operand} {t : TypeId} {o m j q : Nat} {T : TypeId} {e : Ty} {fz : Bool} {xs : List e.den} {k : IntKind} {n : Int} (hx : s.ev C x = .ow o m j q) (ho : s.hp o = some (.arr T e m fz xs)) (hy : s.ev C y = .d (.int k) n)
  (ht : SlT P t e.size) (h0 : 0 <= n) (hz : n < q) : bL P C ⟨dst, .indexAddr t x y, ty, pos, cc, gd⟩ ⟨dst, .oe o m (j + n.toNat), [o], []⟩ s :=
 dC [o] fun w im μ hp ρ h hk ef => by
  obtain ⟨hr, cY⟩ := hx ▸ h x (by simp [Op.operands])
  have e2 := fa (hy ▸ h y (by simp [Op.operands]))
  have rm : hp o = some (.arr T e m fz xs) := (hk o (by simp)).trans ho
  simp only [RepA] at hr
  obtain ⟨T', e', m', z', oP, eZ, hle, u, hc, h1, eQ⟩ := hr
  rw [rm] at eZ
  cases eZ
  obtain ⟨b, cap, iS, rfl⟩ := eQ rfl
  obtain ⟨et, i, vl, xp, h4'⟩ := ht
  have hv := aL hc cY
  refine ⟨.pointer (some ⟨b, (j + n.toNat) * e.size, none⟩), w, ?_, rfl, rfl, rfl, rfl, ⟨?_, rfl⟩⟩
  ·simp [execOp, hv, e2, Instr.indexAt, asIntOf, run_underlying vl, h0, hz, sizeOf, typeInfo, xp, h4', df, Nat.add_mul]
  ·simp only [RepA, Value.cells]
   exact ⟨T, e, m, fz, xs, rm, Nat.le_refl _, _, rfl, rfl, fun _ => ⟨b, cap, iS, rfl⟩⟩
theorem DE {t : TypeId} {x : Operand} {o m i : Nat} {T : TypeId} {e : Ty} {fz : Bool} {xs : List e.den} {z : e.den} (hx : s.ev C x = .oe o m i) (ho : s.hp o = some (.arr T e m fz xs)) (hz : xs[i]? = some z) (ht : TyS P t e.size e.isAgg) :
  bL P C ⟨dst, .load t x, ty, pos, cc, gd⟩ ⟨dst, .d e z, [o], []⟩ s :=
 dC [o] fun w im μ hp ρ h hk ef => by
  obtain ⟨hr, cY⟩ := hx ▸ h x (by simp [Op.operands])
  have rm : hp o = some (.arr T e m fz xs) := (hk o (by simp)).trans ho
  simp only [RepA] at hr
  obtain ⟨T', e', m', z', oP, eZ, hle, u, hc, h1, eQ⟩ := hr
  rw [rm] at eZ
  cases eZ
  obtain ⟨b, cap, iS, rfl⟩ := eQ rfl
  have cn : i < xs.length := (List.getElem?_eq_some_iff.1 hz).1
  rcases (ef o _ rm).arr with ⟨ad, bq, rfl⟩ | ⟨b', cap', cs, bq, _, _, hb, hl⟩
  ·simp at cn
  ·obtain ⟨rfl, rfl⟩ : b' = b /\ cap' = cap := by
    rcases iS with iS | iS <;> rcases bq with bq | bq <;> rw [iS] at bq <;> cases bq <;> exact ⟨rfl, rfl⟩
   have hv : ρ x = .pointer (some ⟨b', i * e.size, none⟩) := by
    generalize ρ x = v at hc cY
    cases v <;> simp_all [Value.cells, bh, AV.isAgg]
   obtain ⟨hg, hgl⟩ := aU.get (aM.length e) hl hz
   have hA : RepA w im μ hp (.d e z) (List.take e.size (List.drop (i * e.size) cs)) := by simp only [RepA]; exact hg
   have hca2 := hb.sub (i * e.size) e.size
   rw [Nat.zero_add] at hca2
   refine ⟨iI e.isAgg _, w, ?_, rfl, rfl, rfl, rfl, hA.toV⟩
   simp only [execOp, hv, Instr.loadAt, Instr.sureAddr, Sem.run_bind, Sem.run_pure, Result.andThen_ok]
   rw [ji ht w hca2 hgl (fun cY => by have := hY (a := .d e z) cY; simpa [AV.asize] using this)]
   rfl
theorem bV (w : World) {k : IntKind} {n : Int} {y : Nat} (h0 : 0 <= n) (h1 : n <= y) (c : BoundsCode) : (Instr.sliceBound (.int k n) y c).run P w = .ok n.toNat w := by
 simp [Instr.sliceBound, asIntOf, h0, h1]
def fH (C : Ctx) (s : ASt) (x : Option Operand) (dflt n : Nat) : Prop :=
 match x with
 | none => n = dflt
 | some x => ∃ (k : IntKind) (z : Int), s.ev C x = .d (.int k) z /\ 0 <= z /\ z.toNat = n
theorem fb (w : World) {lo hi : Option Value} {len cap l h : Nat} (mf : match lo with | none => l = 0 | some v => ∃ k z, v = .int k z /\ 0 <= z /\ z.toNat = l) (qM : match hi with | none => h = len | some v => ∃ k z, v = .int k z /\ 0 <= z /\ z.toNat = h)
  (h1 : l <= h) (h2 : h <= cap) (b : Bool) : (Instr.sliceBounds b len cap lo hi none).run P w = .ok (l, h, cap) w := by
 cases lo with
 | none =>
  simp only at mf; subst mf
  cases hi with
  | none => simp only at qM; subst qM; simp [Instr.sliceBounds]
  | some v =>
   obtain ⟨k, z, rfl, hz, rfl⟩ := qM
   simp [Instr.sliceBounds, bV w hz (show z <= (cap : Int) by omega)]
 | some u =>
  obtain ⟨k', z', rfl, PX, rfl⟩ := mf
  cases hi with
  | none => simp only at qM; subst qM; simp [Instr.sliceBounds, bV w PX (show z' <= ((h : Nat) : Int) by omega)]
  | some v =>
   obtain ⟨k, z, rfl, hz, rfl⟩ := qM
   simp [Instr.sliceBounds, bV w hz (show z <= (cap : Int) by omega), bV w PX (show z' <= ((z.toNat : Nat) : Int) by omega)]
theorem du {s : ASt} {x : Option Operand} {dflt n : Nat} (h : fH C s x dflt n) {w : World} {im : Nat -> Prop} {μ : Mu} {hp : Hp} {ρ : Operand -> Value} (hr : ∀ o, x = some o -> bC w im μ hp (s.ev C o) (ρ o)) :
  match x.map ρ with | none => n = dflt | some v => ∃ k z, v = .int k z /\ 0 <= z /\ z.toNat = n := by
 cases x with
 | none => exact h
 | some o =>
  obtain ⟨k, z, he, h0, h1⟩ := h
  exact ⟨k, z, fa (he ▸ hr o rfl), h0, h1⟩
theorem DF {t : TypeId} {x : Operand} {lo hi : Option Operand} {e : Ty} {xs : List e.den} {l h : Nat} (hx : s.ev C x = .d (.slice e) xs) (ht : SlT P t e.size) (mf : fH C s lo 0 l) (qM : fH C s hi xs.length h)
  (h1 : l <= h) (h2 : h <= xs.length) : bL P C ⟨dst, .slice t x lo hi none, ty, pos, cc, gd⟩ ⟨dst, .d (.slice e) ((xs.take h).drop l), [], []⟩ s :=
 aY fun w im μ hp ρ hr => by
  obtain ⟨hA, cY⟩ := hx ▸ hr x (by simp [Op.operands])
  simp only [RepA, aM] at hA
  obtain ⟨ad, cap, hc, h3, h4, E9, h5⟩ := hA
  have hv := aL hc cY
  obtain ⟨et, i, hu, fq, gk⟩ := ht
  have hb := fb (P := P) w (len := xs.length) (cap := cap) (du mf (fun o ho => hr o (by subst ho; simp [Op.operands]))) (du qM (fun o ho => hr o (by subst ho; cases lo <;> simp [Op.operands]))) h1 (by omega) true
  refine ⟨.slice (if cap = l then ad else ad.map (·.add (l * e.size))) (h - l) (cap - l), ?_, ⟨?_, rfl⟩⟩
  ·simp [execOp, hv, Instr.sliceAt, Instr.slice, run_underlying hu, hb, sizeOf, typeInfo, fq, gk]
  ·simp only [RepA, aM, Value.cells]
   have hl : ((xs.take h).drop l).length = h - l := by rw [List.length_drop, List.length_take]; omega
   refine ⟨_, cap - l, by rw [hl], by omega, by omega, ?_, ?_⟩
   ·split
    ·intro hn; rw [hn] at E9; have := E9 rfl; omega
    ·intro hn
     rw [Option.map_eq_none_iff] at hn
     have := E9 hn; omega
   ·by_cases Ka : cap = l
    ·have : (xs.take h).drop l = [] := by
      apply List.eq_nil_of_length_eq_zero; omega
     rw [if_pos Ka, this]
     cases ad with
     | none => rfl
     | some ad => exact .inl rfl
    ·rw [if_neg Ka]
     cases ad with
     | none => have h5' : xs = [] := h5; rw [h5']; simp [lE]
     | some ad =>
      rcases h5 with h5 | ⟨hs, iR, cs, h6, h7⟩
      ·rw [h5]; exact .inl (by simp)
      ·obtain ⟨b, off, sp⟩ := ad
       simp only at hs iR h6
       subst hs
       simp only [Option.map_some, df, lE]
       refine .inr ⟨trivial, iR, (cs.take (h * e.size)).drop (l * e.size), ?_, aU.drop (aM.length e) (aU.take (aM.length e) h7 h) l⟩
       intro j v hj
       rw [List.getElem?_drop, List.getElem?_take] at hj
       split at hj
       ·have := h6 _ _ hj; rw [Nat.add_assoc]; exact this
       ·cases hj
theorem xG {t : TypeId} {x : Operand} {lo hi : Option Operand} {xs : aj} {l h : Nat} (hx : s.ev C x = .d .str xs) (ht : P.underlying t = some .string) (mf : fH C s lo 0 l) (qM : fH C s hi xs.length h)
  (h1 : l <= h) (h2 : h <= xs.length) : bL P C ⟨dst, .slice t x lo hi none, ty, pos, cc, gd⟩ ⟨dst, .d .str ((xs.take h).drop l), [], []⟩ s :=
 aY fun w im μ hp ρ hr => by
  have e1 := bH (u := .string ⟨xs.toArray⟩) (by rw [hx]; rfl) (hr x (by simp [Op.operands]))
  have gk : (⟨xs.toArray⟩ : ByteArray).size = xs.length := by simp [ByteArray.size]
  have hb := fb (P := P) w (len := xs.length) (cap := xs.length) (du mf (fun o ho => hr o (by subst ho; simp [Op.operands]))) (du qM (fun o ho => hr o (by subst ho; cases lo <;> simp [Op.operands]))) h1 h2 false
  refine ⟨.string ⟨((xs.take h).drop l).toArray⟩, ?_, ⟨by simp [RepA, aM, Value.cells], rfl⟩⟩
  have hex : (⟨xs.toArray⟩ : ByteArray).extract l h = ⟨((xs.take h).drop l).toArray⟩ := by
   apply ByteArray.ext
   rw [ByteArray.data_extract]
   apply Array.ext'
   rw [Array.toList_extract, List.extract_eq_take_drop, List.drop_take]
  simp [execOp, e1, Instr.sliceAt, Instr.slice, run_underlying ht, gk, hb, hex]
theorem xH {t : TypeId} {x hh mx : Operand} {lo : Option Operand} {e : Ty} {xs : List e.den} {av : AV} {esz : Nat} (hx : s.ev C x = av) (hs : Src s.hp av e xs) (ht : SlT P t esz) (mf : fH C s lo 0 0) (qM : s.ev C hh = .d (.int .i64) 0) (hmx : s.ev C mx = .d (.int .i64) 0) :
  bL P C ⟨dst, .slice t x lo (some hh) (some mx), ty, pos, cc, gd⟩ ⟨dst, .emp, av.objs, []⟩ s :=
 dC av.objs fun w im μ hp ρ hr hk ef => by
  obtain ⟨ad, cap, hv, hcap, _⟩ := (hs.hp hk).sound (hx ▸ hr x (by simp [Op.operands])) ef
  obtain ⟨et, i, hu, fq, gk⟩ := ht
  have e1 := fa (qM ▸ hr hh (by cases lo <;> simp [Op.operands]))
  have e2 := fa (hmx ▸ hr mx (by cases lo <;> simp [Op.operands]))
  have hl := du (ρ := ρ) mf (fun o ho => hr o (by subst ho; simp [Op.operands]))
  refine ⟨.slice ad 0 0, w, ?_, rfl, rfl, rfl, rfl, ⟨by simp only [RepA, Value.cells]; exact ⟨ad, rfl⟩, rfl⟩⟩
  cases lo with
  | none =>
   simp [execOp, hv, e1, e2, Instr.sliceAt, Instr.slice, run_underlying hu, Instr.sliceBounds, bV, sizeOf, typeInfo, fq]
  | some lo =>
   obtain ⟨k, z, h1, h2, h3⟩ := hl
   obtain rfl : z = 0 := by omega
   simp [execOp, hv, h1, e1, e2, Instr.sliceAt, Instr.slice, run_underlying hu, Instr.sliceBounds, bV, sizeOf, typeInfo, fq]
end
end Go.Vm
