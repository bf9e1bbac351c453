/- Part G of the abstract machine: slices: index, cut, length, literals, make, append. -/
import Derived.Test.YtnkhoojomojbpaaGreatDoorK6
namespace Go.Vm
def lim : Nat := 4294967296
section
variable {P : Program} {C : Ctx}
def SlT (P : Program) (t : TypeId) (esz : Nat) : Prop := ∃ e i, P.underlying t = some (.slice e) /\ P.info? e = some i /\ i.size = esz
def ArT (P : Program) (t : TypeId) (n esz : Nat) : Prop := ∃ e i, P.underlying t = some (.array n e) /\ P.info? e = some i /\ i.size = esz
theorem il.arr {w : World} {im : Nat -> Prop} {μ : Mu} {hp : Hp} {pl : Pl} {T : TypeId} {e : Ty} {m : Nat} {z : Bool} {xs : List e.den} (h : il w im μ hp pl (.arr T e m z xs)) :
  (∃ a, pl = .nil a /\ xs = []) \/ ∃ b cap cs, (pl = .row b cap \/ pl = .fz b cap) /\ xs.length <= cap /\ cap <= maxLen /\ bX w b 0 cs /\ aR (aM w im e) cs xs := by
 rcases h with h | ⟨_, b, cap, cells, h1, h2, h3, h4, h5, h6⟩ | ⟨_, b, cap, cs, h1, h2, h3, h4, h5, h6⟩
 ·exact .inl h
 ·refine .inr ⟨b, cap, _, .inl h1, h3, h4, ?_, h6⟩
  have := (cp h2).sub 0 (xs.length * e.size)
  simpa using this
 ·exact .inr ⟨b, cap, cs, .inr h1, h3, h4, h5, h6⟩
inductive Src (hp : Hp) : AV -> (e : Ty) -> List e.den -> Prop
 | d {e : Ty} {xs : List e.den} : Src hp (.d (.slice e) xs) e xs
 | os {o n : Nat} {T : TypeId} {e : Ty} {z : Bool} {xs : List e.den} : hp o = some (.arr T e n z xs) -> Src hp (.os o n) e xs
 | nils {e : Ty} : Src hp .nils e []
 | emp {e : Ty} : Src hp .emp e []
def AV.objs : AV -> List Nat
 | .os o _ => [o]
 | .oe o _ _ => [o]
 | .ow o _ _ _ => [o]
 | .op o _ _ => [o]
 | _ => []
theorem Src.hp {hp bp : Hp} {a : AV} {e : Ty} {xs : List e.den} (h : Src hp a e xs) (hk : ∀ k ∈ a.objs, bp k = hp k) : Src bp a e xs := by
 cases h with
 | d => exact .d
 | os h1 => exact .os ((hk _ (by simp [AV.objs])).trans h1)
 | nils => exact .nils
 | emp => exact .emp
def Xw (w : World) (im : Nat -> Prop) (e : Ty) (xs : List e.den) (v : Value) : Prop :=
 ∃ a cap, v = .slice a xs.length cap /\ xs.length <= cap /\ (xs = [] \/ ∃ b off cs, a = some ⟨b, off, none⟩ /\ bX w b off cs /\ aR (aM w im e) cs xs)
theorem aL {v : Value} {a : Option Addr} {n cap : Nat} (h : v.cells.toList = [.slice a n cap]) (cy : aY v = false) : v = .slice a n cap := by
 cases v <;> simp_all [Value.cells, aY]
theorem Src.sound {w : World} {im : Nat -> Prop} {μ : Mu} {hp : Hp} {a : AV} {e : Ty} {xs : List e.den} {v : Value} (h : Src hp a e xs) (hv : bo w im μ hp a v)
  (dK : ∀ k ob, hp k = some ob -> il w im μ hp (μ k) ob) : Xw w im e xs v := by
 cases h with
 | d =>
  obtain ⟨hr, cy⟩ := hv
  simp only [RepA, aM] at hr
  obtain ⟨ad, cap, hc, h1, h2, h0, h3⟩ := hr
  refine ⟨ad, cap, aL hc cy, h1, ?_⟩
  cases ad with
  | none => exact .inl h3
  | some ad =>
   rcases h3 with h3 | ⟨hs, _, cs, h4, h5⟩
   ·exact .inl h3
   ·obtain ⟨b, off, sp⟩ := ad
    grind
 | @os o n T e z xs ho =>
  obtain ⟨hr, cy⟩ := hv
  simp only [RepA] at hr
  obtain ⟨T', e', m', z', px, dS, hle, u, hc, h1, eg⟩ := hr
  rw [ho] at dS
  cases dS
  have hpl2 := eg rfl
  clear eg
  rcases (dK o _ ho).arr with ⟨ad, bp, rfl⟩ | ⟨b, cap, cs, bp, wN, zo, h3', h4'⟩
  ·rw [bp] at hpl2
   simp only [cn] at hpl2
   subst hpl2
   exact ⟨ad, 0, aL hc cy, Nat.le_refl _, .inl rfl⟩
  ·have hpl3 : u = .slice (some ⟨b, 0, none⟩) xs.length cap := by rcases bp with bp | bp <;> rw [bp] at hpl2 <;> exact hpl2
   subst hpl3
   exact ⟨some ⟨b, 0, none⟩, cap, aL hc cy, wN, .inr ⟨b, 0, _, rfl, h3', h4'⟩⟩
 | nils =>
  obtain ⟨hr, cy⟩ := hv
  simp only [RepA] at hr
  exact ⟨none, 0, aL hr cy, Nat.le_refl _, .inl rfl⟩
 | emp =>
  obtain ⟨hr, cy⟩ := hv
  simp only [RepA] at hr
  obtain ⟨ad, hr⟩ := hr
  exact ⟨ad, 0, aL hr cy, Nat.le_refl _, .inl rfl⟩
variable {s : ASt} {dst : Option Tmp} {ty : TypeId} {pos : String} {bT : Array Edge} {gd : Option (Nat × Bool)}
theorem wX {x : Operand} {t : TypeId} {e : Ty} {xs : List e.den} {av : AV} {esz : Nat} (hx : s.ev C x = av) (hs : Src s.hp av e xs) (ht : SlT P t esz) :
  bB P C ⟨dst, .call ⟨.builtin .len, #[x], #[t]⟩, ty, pos, bT, gd⟩ ⟨dst, .d (.int .i64) (xs.length : Int), av.objs, []⟩ s :=
 df av.objs fun w im μ hp ρ h hk dK => by
  obtain ⟨ad, cap, hv, _⟩ := (hs.hp hk).sound (hx ▸ h x (by simp [Op.operands, Call.operands])) dK
  obtain ⟨et, i, h1, _, _⟩ := ht
  refine ⟨.int .i64 xs.length, w, ?_, rfl, rfl, rfl, rfl, aP _ _ _ _ (.int .i64 xs.length)⟩
  simp [execOp, resolve, invoke, builtin, hv, Builtin.len_, run_underlying h1, goInt]
theorem Dk {x : Operand} {t : TypeId} {l : ak} (hx : s.ev C x = .d .str l) (ht : P.underlying t = some .string) :
  bB P C ⟨dst, .call ⟨.builtin .len, #[x], #[t]⟩, ty, pos, bT, gd⟩ ⟨dst, .d (.int .i64) (l.length : Int), [], []⟩ s :=
 aW fun w im μ hp ρ h => by
  have e1 := bu (u := .string ⟨l.toArray⟩) (by rw [hx]; rfl) (h x (by simp [Op.operands, Call.operands]))
  refine ⟨.int .i64 l.length, ?_, aP _ _ _ _ (.int .i64 l.length)⟩
  have fP : (⟨l.toArray⟩ : ByteArray).size = l.length := by simp [ByteArray.size]
  simp [execOp, resolve, invoke, builtin, e1, Builtin.len_, run_underlying ht, goInt, fP]
theorem eu {w : World} {im : Nat -> Prop} {μ : Mu} {hp : Hp} {k : IntKind} {n : Int} {v : Value} (h : bo w im μ hp (.d (.int k) n) v) : v = .int k n := bu (u := .int k n) rfl h
theorem Dl {x y : Operand} {t : TypeId} {e : Ty} {xs : List e.den} {k : IntKind} {n : Int} {z : e.den} (hx : s.ev C x = .d (.slice e) xs) (hy : s.ev C y = .d (.int k) n) (ht : SlT P t e.size) (h0 : 0 <= n) (hz : xs[n.toNat]? = some z) :
  bB P C ⟨dst, .indexAddr t x y, ty, pos, bT, gd⟩ ⟨dst, .ip e z, [], []⟩ s :=
 aW fun w im μ hp ρ h => by
  obtain ⟨hr, cy⟩ := hx ▸ h x (by simp [Op.operands])
  have e2 := eu (hy ▸ h y (by simp [Op.operands]))
  simp only [RepA, aM] at hr
  obtain ⟨ad, cap, hc, _, _, _, h3⟩ := hr
  have hv := aL hc cy
  obtain ⟨et, i, h1, h2, h4⟩ := ht
  have bJ : n.toNat < xs.length := (List.getElem?_eq_some_iff.1 hz).1
  cases ad with
  | none => have h3' : xs = [] := h3; rw [h3'] at bJ; simp at bJ
  | some ad =>
   rcases h3 with h3 | ⟨hs, iC, cs, h5, h6⟩
   ·grind
   ·obtain ⟨b, off, sp⟩ := ad
    simp only at hs iC h5
    subst hs
    obtain ⟨hg, hgl⟩ := aR.get (aM.length e) h6 hz
    refine ⟨.pointer (some ⟨b, off + n.toNat * e.size, none⟩), ?_, ⟨?_, rfl⟩⟩
    ·have hlt' : n < (xs.length : Int) := by omega
     simp [execOp, hv, e2, Instr.indexAt, asIntOf, run_underlying h1, h0, hlt', sizeOf, typeInfo, h2, h4, cT]
    ·simp only [RepA, Value.cells]
     exact ⟨b, off + n.toNat * e.size, rfl, iC, _, h5.sub (n.toNat * e.size) e.size, hg⟩
theorem rW {x y : Operand} {t : TypeId} {m : Nat} {e : Ty} {xs : List e.den} {k : IntKind} {n : Int} {z : e.den} (hx : s.ev C x = .ip (.arr m e) xs) (hy : s.ev C y = .d (.int k) n) (ht : ArT P t m e.size) (h0 : 0 <= n) (hz : xs[n.toNat]? = some z) :
  bB P C ⟨dst, .indexAddr t x y, ty, pos, bT, gd⟩ ⟨dst, .ip e z, [], []⟩ s :=
 aW fun w im μ hp ρ h => by
  obtain ⟨hr, cy⟩ := hx ▸ h x (by simp [Op.operands])
  have e2 := eu (hy ▸ h y (by simp [Op.operands]))
  simp only [RepA] at hr
  obtain ⟨b, off, he, iC, ds, hc, hd⟩ := hr
  have hv : ρ x = .pointer (some ⟨b, off, none⟩) := by
   generalize ρ x = v at he cy
   cases v <;> simp_all [Value.cells, aY, AV.isAgg]
  simp only [aM] at hd
  obtain ⟨hm, hl⟩ := hd
  obtain ⟨et, i, h1, h2, h4⟩ := ht
  have bJ : n.toNat < xs.length := (List.getElem?_eq_some_iff.1 hz).1
  obtain ⟨hg, hgl⟩ := aR.get (aM.length e) hl hz
  refine ⟨.pointer (some ⟨b, off + n.toNat * e.size, none⟩), ?_, ⟨?_, rfl⟩⟩
  ·have hlt' : n < (m : Int) := by omega
   simp [execOp, hv, e2, Instr.indexAt, asIntOf, run_underlying h1, h0, hlt', sizeOf, typeInfo, h2, h4, cT, Instr.sureAddr]
  ·simp only [RepA, Value.cells]
   exact ⟨b, off + n.toNat * e.size, rfl, iC, _, hc.sub (n.toNat * e.size) e.size, hg⟩
theorem rX {x y : Operand} {t : TypeId} {m o : Nat} {p p' : List Nat} {off off1 off' : Nat} {v : AV} {e : Ty} {xs : List e.den} {k : IntKind} {n : Int} {z : e.den} (hx : s.ev C x = .op o p off) (hp : s.hp o = some (.box v))
  (hs : Sub v p off1 (.d (.arr m e) xs)) (hy : s.ev C y = .d (.int k) n) (ht : ArT P t m e.size) (h0 : 0 <= n) (hz : xs[n.toNat]? = some z) (_hp' : p ++ [n.toNat] = p') (ho : off + n.toNat * e.size = off') :
  bB P C ⟨dst, .indexAddr t x y, ty, pos, bT, gd⟩ ⟨dst, .op o p' off', [o], []⟩ s :=
 df [o] fun w im μ bp ρ h hk dK => by
  subst ho
  obtain ⟨b, u', wN, zo, hv⟩ := pC (hx ▸ h x (by simp [Op.operands]))
  have e2 := eu (hy ▸ h y (by simp [Op.operands]))
  have qE : bp o = some (.box v) := (hk o (by simp)).trans hp
  obtain ⟨b', cells, T, he, hc, hr⟩ := dK o _ qE
  obtain ⟨c1, c2, c3, _, _, hu⟩ := hs.sound _ hr
  simp only [RepA, aM] at hu
  obtain ⟨et, i, h1, h2, h4⟩ := ht
  have bJ : n.toNat < xs.length := (List.getElem?_eq_some_iff.1 hz).1
  have hm := hu.1
  refine ⟨.pointer (some ⟨b, off + n.toNat * e.size, none⟩), w, ?_, rfl, rfl, rfl, rfl, ⟨?_, rfl⟩⟩
  ·have hlt' : n < (m : Int) := by omega
   simp [execOp, hv, e2, Instr.indexAt, asIntOf, run_underlying h1, h0, hlt', sizeOf, typeInfo, h2, h4, cT, Instr.sureAddr]
  grind [RepA, Value.cells]
theorem zO {x y : Operand} {t : TypeId} {o m : Nat} {T : TypeId} {e : Ty} {fz : Bool} {xs : List e.den} {k : IntKind} {n : Int} {z : e.den} (hx : s.ev C x = .os o m) (ho : s.hp o = some (.arr T e m fz xs)) (hy : s.ev C y = .d (.int k) n)
  (ht : SlT P t e.size) (h0 : 0 <= n) (hz : xs[n.toNat]? = some z) : bB P C ⟨dst, .indexAddr t x y, ty, pos, bT, gd⟩ ⟨dst, .oe o m n.toNat, [o], []⟩ s :=
 df [o] fun w im μ hp ρ h hk dK => by
  obtain ⟨hr, cy⟩ := hx ▸ h x (by simp [Op.operands])
  have e2 := eu (hy ▸ h y (by simp [Op.operands]))
  have qE : hp o = some (.arr T e m fz xs) := (hk o (by simp)).trans ho
  simp only [RepA] at hr
  obtain ⟨T', e', m', z', px, dS, hle, u, hc, h1, eg⟩ := hr
  rw [qE] at dS
  cases dS
  have hpl2 := eg rfl
  clear eg
  have bJ : n.toNat < xs.length := (List.getElem?_eq_some_iff.1 hz).1
  obtain ⟨et, i, wN, zo, h4'⟩ := ht
  rcases (dK o _ qE).arr with ⟨ad, bp, rfl⟩ | ⟨b, cap, cs, bp, _⟩
  ·simp at bJ
  ·have hpl3 : u = .slice (some ⟨b, 0, none⟩) xs.length cap := by rcases bp with bp | bp <;> rw [bp] at hpl2 <;> exact hpl2
   subst hpl3
   have hv := aL hc cy
   refine ⟨.pointer (some ⟨b, n.toNat * e.size, none⟩), w, ?_, rfl, rfl, rfl, rfl, ⟨?_, rfl⟩⟩
   ·have hlt' : n < (xs.length : Int) := by omega
    simp [execOp, hv, e2, Instr.indexAt, asIntOf, run_underlying wN, h0, hlt', sizeOf, typeInfo, zo, h4', cT]
   ·simp only [RepA, Value.cells]
    exact ⟨T, e, m, fz, xs, qE, Nat.le_refl _, _, rfl, rfl, fun _ => ⟨b, cap, bp, rfl⟩⟩
theorem zP {x y : Operand} {t : TypeId} {o m j q : Nat} {T : TypeId} {e : Ty} {fz : Bool} {xs : List e.den} {k : IntKind} {n : Int} (hx : s.ev C x = .ow o m j q) (ho : s.hp o = some (.arr T e m fz xs)) (hy : s.ev C y = .d (.int k) n)
  (ht : SlT P t e.size) (h0 : 0 <= n) (hz : n < q) : bB P C ⟨dst, .indexAddr t x y, ty, pos, bT, gd⟩ ⟨dst, .oe o m (j + n.toNat), [o], []⟩ s :=
 df [o] fun w im μ hp ρ h hk dK => by
  obtain ⟨hr, cy⟩ := hx ▸ h x (by simp [Op.operands])
  have e2 := eu (hy ▸ h y (by simp [Op.operands]))
  have qE : hp o = some (.arr T e m fz xs) := (hk o (by simp)).trans ho
  simp only [RepA] at hr
  obtain ⟨T', e', m', z', px, dS, hle, u, hc, h1, eg⟩ := hr
  rw [qE] at dS
  cases dS
  obtain ⟨b, cap, iQ, rfl⟩ := eg rfl
  obtain ⟨et, i, wN, zo, h4'⟩ := ht
  have hv := aL hc cy
  refine ⟨.pointer (some ⟨b, (j + n.toNat) * e.size, none⟩), w, ?_, rfl, rfl, rfl, rfl, ⟨?_, rfl⟩⟩
  ·simp [execOp, hv, e2, Instr.indexAt, asIntOf, run_underlying wN, h0, hz, sizeOf, typeInfo, zo, h4', cT, Nat.add_mul]
  ·simp only [RepA, Value.cells]
   exact ⟨T, e, m, fz, xs, qE, Nat.le_refl _, _, rfl, rfl, fun _ => ⟨b, cap, iQ, rfl⟩⟩
theorem Dm {t : TypeId} {x : Operand} {o m i : Nat} {T : TypeId} {e : Ty} {fz : Bool} {xs : List e.den} {z : e.den} (hx : s.ev C x = .oe o m i) (ho : s.hp o = some (.arr T e m fz xs)) (hz : xs[i]? = some z) (ht : TyS P t e.size e.isAgg) :
  bB P C ⟨dst, .load t x, ty, pos, bT, gd⟩ ⟨dst, .d e z, [o], []⟩ s :=
 df [o] fun w im μ hp ρ h hk dK => by
  obtain ⟨hr, cy⟩ := hx ▸ h x (by simp [Op.operands])
  have qE : hp o = some (.arr T e m fz xs) := (hk o (by simp)).trans ho
  simp only [RepA] at hr
  obtain ⟨T', e', m', z', px, dS, hle, u, hc, h1, eg⟩ := hr
  rw [qE] at dS
  cases dS
  obtain ⟨b, cap, iQ, rfl⟩ := eg rfl
  have bJ : i < xs.length := (List.getElem?_eq_some_iff.1 hz).1
  rcases (dK o _ qE).arr with ⟨ad, bp, rfl⟩ | ⟨b', cap', cs, bp, _, _, hb, hl⟩
  ·simp at bJ
  ·obtain ⟨rfl, rfl⟩ : b' = b /\ cap' = cap := by
    grind
   have hv : ρ x = .pointer (some ⟨b', i * e.size, none⟩) := by
    generalize ρ x = v at hc cy
    cases v <;> simp_all [Value.cells, aY, AV.isAgg]
   obtain ⟨hg, hgl⟩ := aR.get (aM.length e) hl hz
   have hA : RepA w im μ hp (.d e z) (List.take e.size (List.drop (i * e.size) cs)) := by simp only [RepA]; exact hg
   have hca2 := hb.sub (i * e.size) e.size
   rw [Nat.zero_add] at hca2
   refine ⟨iq e.isAgg _, w, ?_, rfl, rfl, rfl, rfl, hA.toV⟩
   simp only [execOp, hv, Instr.loadAt, Instr.sureAddr, Sem.run_bind, Sem.run_pure, Result.andThen_ok]
   rw [iT ht w hca2 hgl (fun cy => by have := gG (a := .d e z) cy; simpa [AV.asize] using this)]
   rfl
theorem bL (w : World) {k : IntKind} {n : Int} {y : Nat} (h0 : 0 <= n) (h1 : n <= y) (c : BoundsCode) : (Instr.sliceBound (.int k n) y c).run P w = .ok n.toNat w := by
 simp [Instr.sliceBound, asIntOf, h0, h1]
def fq (C : Ctx) (s : ASt) (x : Option Operand) (dflt n : Nat) : Prop :=
 match x with
 | none => n = dflt
 | some x => ∃ (k : IntKind) (z : Int), s.ev C x = .d (.int k) z /\ 0 <= z /\ z.toNat = n
theorem ez (w : World) {lo hi : Option Value} {len cap l h : Nat} (mV : match lo with | none => l = 0 | some v => ∃ k z, v = .int k z /\ 0 <= z /\ z.toNat = l) (qd : match hi with | none => h = len | some v => ∃ k z, v = .int k z /\ 0 <= z /\ z.toNat = h)
  (h1 : l <= h) (h2 : h <= cap) (b : Bool) : (Instr.sliceBounds b len cap lo hi none).run P w = .ok (l, h, cap) w := by
 cases lo with
 | none =>
  simp only at mV; subst mV
  cases hi with
  | none => simp only at qd; subst qd; simp [Instr.sliceBounds]
  | some v =>
   obtain ⟨k, z, rfl, hz, rfl⟩ := qd
   simp [Instr.sliceBounds, bL w hz (show z <= (cap : Int) by omega)]
 | some u =>
  obtain ⟨k', z', rfl, P0, rfl⟩ := mV
  cases hi with
  | none => simp only at qd; subst qd; simp [Instr.sliceBounds, bL w P0 (show z' <= ((h : Nat) : Int) by omega)]
  | some v =>
   obtain ⟨k, z, rfl, hz, rfl⟩ := qd
   simp [Instr.sliceBounds, bL w hz (show z <= (cap : Int) by omega), bL w P0 (show z' <= ((z.toNat : Nat) : Int) by omega)]
theorem da {s : ASt} {x : Option Operand} {dflt n : Nat} (h : fq C s x dflt n) {w : World} {im : Nat -> Prop} {μ : Mu} {hp : Hp} {ρ : Operand -> Value} (hr : ∀ o, x = some o -> bo w im μ hp (s.ev C o) (ρ o)) :
  match x.map ρ with | none => n = dflt | some v => ∃ k z, v = .int k z /\ 0 <= z /\ z.toNat = n := by
 cases x with
 | none => exact h
 | some o =>
  obtain ⟨k, z, he, h0, h1⟩ := h
  exact ⟨k, z, eu (he ▸ hr o rfl), h0, h1⟩
theorem Dn {t : TypeId} {x : Operand} {lo hi : Option Operand} {e : Ty} {xs : List e.den} {l h : Nat} (hx : s.ev C x = .d (.slice e) xs) (ht : SlT P t e.size) (mV : fq C s lo 0 l) (qd : fq C s hi xs.length h)
  (h1 : l <= h) (h2 : h <= xs.length) : bB P C ⟨dst, .slice t x lo hi none, ty, pos, bT, gd⟩ ⟨dst, .d (.slice e) ((xs.take h).drop l), [], []⟩ s :=
 aW fun w im μ hp ρ hr => by
  obtain ⟨hA, cy⟩ := hx ▸ hr x (by simp [Op.operands])
  simp only [RepA, aM] at hA
  obtain ⟨ad, cap, hc, h3, h4, h00, h5⟩ := hA
  have hv := aL hc cy
  obtain ⟨et, i, hu, fc, fP⟩ := ht
  have hb := ez (P := P) w (len := xs.length) (cap := cap) (da mV (fun o ho => hr o (by subst ho; simp [Op.operands]))) (da qd (fun o ho => hr o (by subst ho; cases lo <;> simp [Op.operands]))) h1 (by omega) true
  refine ⟨.slice (if cap = l then ad else ad.map (·.add (l * e.size))) (h - l) (cap - l), ?_, ⟨?_, rfl⟩⟩
  ·simp [execOp, hv, Instr.sliceAt, Instr.slice, run_underlying hu, hb, sizeOf, typeInfo, fc, fP]
  ·simp only [RepA, aM, Value.cells]
   have hl : ((xs.take h).drop l).length = h - l := by rw [List.length_drop, List.length_take]; omega
   refine ⟨_, cap - l, by rw [hl], by omega, by omega, ?_, ?_⟩
   ·grind [Option.map_eq_none_iff]
   ·by_cases CZ : cap = l
    ·have : (xs.take h).drop l = [] := by
      grind
     rw [if_pos CZ, this]
     cases ad with
     | none => rfl
     | some ad => exact .inl rfl
    ·rw [if_neg CZ]
     cases ad with
     | none => have h5' : xs = [] := h5; rw [h5']; simp [kP]
     | some ad =>
      rcases h5 with h5 | ⟨hs, iC, cs, h6, h7⟩
      ·rw [h5]; exact .inl (by simp)
      ·obtain ⟨b, off, sp⟩ := ad
       simp only at hs iC h6
       subst hs
       simp only [Option.map_some, cT, kP]
       refine .inr ⟨trivial, iC, (cs.take (h * e.size)).drop (l * e.size), ?_, aR.drop (aM.length e) (aR.take (aM.length e) h7 h) l⟩
       intro j v hj
       rw [List.getElem?_drop, List.getElem?_take] at hj
       split at hj
       ·have := h6 _ _ hj; rw [Nat.add_assoc]; exact this
       ·cases hj
theorem wY {t : TypeId} {x : Operand} {lo hi : Option Operand} {xs : ak} {l h : Nat} (hx : s.ev C x = .d .str xs) (ht : P.underlying t = some .string) (mV : fq C s lo 0 l) (qd : fq C s hi xs.length h)
  (h1 : l <= h) (h2 : h <= xs.length) : bB P C ⟨dst, .slice t x lo hi none, ty, pos, bT, gd⟩ ⟨dst, .d .str ((xs.take h).drop l), [], []⟩ s :=
 aW fun w im μ hp ρ hr => by
  have e1 := bu (u := .string ⟨xs.toArray⟩) (by rw [hx]; rfl) (hr x (by simp [Op.operands]))
  have fP : (⟨xs.toArray⟩ : ByteArray).size = xs.length := by simp [ByteArray.size]
  have hb := ez (P := P) w (len := xs.length) (cap := xs.length) (da mV (fun o ho => hr o (by subst ho; simp [Op.operands]))) (da qd (fun o ho => hr o (by subst ho; cases lo <;> simp [Op.operands]))) h1 h2 false
  refine ⟨.string ⟨((xs.take h).drop l).toArray⟩, ?_, ⟨by simp [RepA, aM, Value.cells], rfl⟩⟩
  have hex : (⟨xs.toArray⟩ : ByteArray).extract l h = ⟨((xs.take h).drop l).toArray⟩ := by
   apply ByteArray.ext
   rw [ByteArray.data_extract]
   grind
  simp [execOp, e1, Instr.sliceAt, Instr.slice, run_underlying ht, fP, hb, hex]
theorem wZ {t : TypeId} {x hh mx : Operand} {lo : Option Operand} {e : Ty} {xs : List e.den} {av : AV} {esz : Nat} (hx : s.ev C x = av) (hs : Src s.hp av e xs) (ht : SlT P t esz) (mV : fq C s lo 0 0) (qd : s.ev C hh = .d (.int .i64) 0) (hmx : s.ev C mx = .d (.int .i64) 0) :
  bB P C ⟨dst, .slice t x lo (some hh) (some mx), ty, pos, bT, gd⟩ ⟨dst, .emp, av.objs, []⟩ s :=
 df av.objs fun w im μ hp ρ hr hk dK => by
  obtain ⟨ad, cap, hv, hcap, _⟩ := (hs.hp hk).sound (hx ▸ hr x (by simp [Op.operands])) dK
  obtain ⟨et, i, hu, fc, fP⟩ := ht
  have e1 := eu (qd ▸ hr hh (by cases lo <;> simp [Op.operands]))
  have e2 := eu (hmx ▸ hr mx (by cases lo <;> simp [Op.operands]))
  have hl := da (ρ := ρ) mV (fun o ho => hr o (by subst ho; simp [Op.operands]))
  refine ⟨.slice ad 0 0, w, ?_, rfl, rfl, rfl, rfl, ⟨by simp only [RepA, Value.cells]; exact ⟨ad, rfl⟩, rfl⟩⟩
  cases lo with
  | none =>
   simp [execOp, hv, e1, e2, Instr.sliceAt, Instr.slice, run_underlying hu, Instr.sliceBounds, bL, sizeOf, typeInfo, fc]
  | some lo =>
   obtain ⟨k, z, h1, h2, h3⟩ := hl
   obtain rfl : z = 0 := by omega
   simp [execOp, hv, h1, e1, e2, Instr.sliceAt, Instr.slice, run_underlying hu, Instr.sliceBounds, bL, sizeOf, typeInfo, fc]
end
end Go.Vm
