/- Part H of the abstract machine: new slices: literals, make, append; structs out of parts; function values; odds and ends. -/
import Derived.Test.YtnkhoojomojbpaaGreatDoorK7
namespace Go.Vm
section
variable {P : Program} {C : Ctx} {s : ASt} {dst : Option Tmp} {ty : TypeId} {pos : String} {bT : Array Edge} {gd : Option (Nat × Bool)}
inductive w6 : AV -> (t : Ty) -> t.den -> Prop
 | d {t : Ty} {x : t.den} : w6 (.d t x) t x
 | nils {e : Ty} : w6 .nils (.slice e) []
 | pr {a b : AV} {ta tb : Ty} {x : ta.den} {y : tb.den} : w6 a ta x -> w6 b tb y -> w6 (.pr a b) (.pair ta tb) (x, y)
theorem w6.sound {w : World} {im : Nat -> Prop} {μ : Mu} {hp : Hp} {a : AV} {t : Ty} {x : t.den} (h : w6 a t x) : ∀ cs, RepA w im μ hp a cs -> aM w im t cs x := by
 induction h with
 | d => intro cs hr; simpa only [RepA] using hr
 | nils => intro cs hr; simp only [RepA] at hr; exact ⟨none, 0, hr, Nat.le_refl _, Nat.zero_le _, fun _ => rfl, rfl⟩
 | pr _ _ ih1 ih2 =>
  intro cs hr
  simp only [RepA] at hr
  obtain ⟨c1, c2, e, h1, h2⟩ := hr
  exact ⟨c1, c2, e, ih1 c1 h1, ih2 c2 h2⟩
theorem w6.plain {a : AV} {t : Ty} {x : t.den} (h : w6 a t x) : a.plain = true := by cases h <;> rfl
structure ElT (P : Program) (t T : TypeId) (e : Ty) : Prop where
 und : P.underlying t = some (.slice T)
 info : ∃ i z, P.info? T = some i /\ i.size = e.size /\ i.bytes <= 4096 /\ i.zero = some z /\ z.cells.toList = fe e
 pos : 0 < e.size
def jm {α : Type} : List α -> List (Nat × α) -> List α
 | l, [] => l
 | l, (i, x) :: r => jm (l.set i x) r
theorem vm (cells : Array Value) : ∀ (ds : List Value) (k : Nat) (acc : Array Value), k + ds.length <= acc.size -> 
  ((ds.zipIdx k).foldl (fun cs (c, j) => cs.setIfInBounds j c) acc).toList = acc.toList.take k ++ ds ++ acc.toList.drop (k + ds.length)
 | [], k, acc, _ => by simp
 | d :: ds, k, acc, h => by
  simp only [List.zipIdx_cons, List.foldl_cons]
  simp only [List.length_cons] at h
  rw [vm cells ds (k + 1) _ (by simp; omega)]
  simp only [Array.toList_setIfInBounds, List.length_cons]
  have hk : k < acc.toList.length := by simp; omega
  rw [List.take_set, List.drop_set]
  grind [List.take_succ_eq_append_getElem, List.set_append_right, List.length_take, Nat.add_assoc, Nat.add_comm]
theorem Kj (off : Nat) (ds : List Value) : ∀ (acc : Array Value) (k : Nat), 
  (ds.zipIdx k).foldl (fun cs (c, j) => cs.setIfInBounds (off + j) c) acc = (ds.zipIdx (off + k)).foldl (fun cs (c, j) => cs.setIfInBounds j c) acc := by
 induction ds with
 | nil => intro acc k; rfl
 | cons d ds ih => intro acc k; simp only [List.zipIdx_cons, List.foldl_cons]; rw [ih]; rfl
theorem vn {place : Nat -> Option (Nat × Nat)} {cells : Array Value} {i : Nat} {v : Value} {rest : List (Nat × Value)} {off size : Nat} (hp : place i = some (off, size)) (fP : v.cells.toList.length = size) (hfit : off + size <= cells.size) :
  Instr.fill place cells ((i, v) :: rest) = Instr.fill place (cells.toList.take off ++ v.cells.toList ++ cells.toList.drop (off + size)).toArray rest := by
 have h1 : v.cells.size = size := by rw [← fP]; simp
 have e : (v.cells.zipIdx.foldl (fun cs (c, j) => cs.setIfInBounds (off + j) c) cells) = (cells.toList.take off ++ v.cells.toList ++ cells.toList.drop (off + size)).toArray := by
  rw [← Array.foldl_toList, Array.toList_zipIdx, Kj]
  apply Array.ext'
  rw [Nat.add_zero, vm cells _ _ _ (by rw [fP]; exact hfit), fP]
 simp only [Instr.fill, hp, h1]
 grind
theorem pD {w : World} {im : Nat -> Prop} {e : Ty} : ∀ (parts : List (Nat × Value)) (ys : List (Nat × e.den)) (cells : Array Value) (xs : List e.den), aR (aM w im e) cells.toList xs ->
  parts.length = ys.length -> (∀ (k i : Nat) (v : Value), parts[k]? = some (i, v) -> ∃ y, ys[k]? = some (i, y) /\ aM w im e v.cells.toList y /\ i < xs.length) ->
  ∃ out, Instr.fill (fun i => some (i * e.size, e.size)) cells parts = some out /\ aR (aM w im e) out.toList (jm xs ys)
 | [], [], cells, xs, h, _, _ => ⟨cells, rfl, h⟩
 | (i, v) :: parts, (i', y') :: ys, cells, xs, h, hl, hp => by
  obtain ⟨y, hy, hd, hi⟩ := hp 0 i v rfl
  simp only [List.getElem?_cons_zero, Option.some.injEq, Prod.mk.injEq] at hy
  obtain ⟨rfl, rfl⟩ := hy
  have hlen := aR.length (aM.length e) _ _ h
  have hle : (i' + 1) * e.size <= xs.length * e.size := Nat.mul_le_mul_right _ (by omega)
  rw [Nat.add_mul, Nat.one_mul] at hle
  rw [Array.length_toList] at hlen
  have hset := aR.set (aM.length e) h hi hd
  rw [Nat.add_mul, Nat.one_mul] at hset
  rw [vn (place := fun i => some (i * e.size, e.size)) rfl (aM.length e _ _ hd) (by omega)]
  exact pD parts ys _ (xs.set i' y') (by simpa using hset) (by simpa using hl) (fun k j u hk => by
   obtain ⟨z, h1, h2, h3⟩ := hp (k + 1) j u (by simpa using hk)
   exact ⟨z, by simpa using h1, h2, by simpa using h3⟩)
 | [], _ :: _, _, _, _, hl, _ => by simp at hl
 | _ :: _, [], _, _, _, hl, _ => by simp at hl
theorem j4 {e : Ty} {z : Array Value} (hz : z.toList = fe e) : ∀ n : Nat, ((Array.range (n * e.size)).map (z[· % z.size]!)).toList = (List.replicate n (fe e)).flatten := by
 have fP : z.size = e.size := by
  rw [← Array.length_toList, hz, (bZ (default : World) (fun _ => True) e).length]
 intro n
 rw [Array.toList_map, Array.toList_range, fP]
 induction n with
 | zero => simp
 | succ n ih =>
  rw [Nat.add_mul, Nat.one_mul, List.range_add, List.map_append, ih, List.replicate_succ', List.flatten_append]
  congr 1
  simp only [List.map_map, List.flatten_cons, List.flatten_nil, List.append_nil]
  apply List.ext_getElem?
  intro j
  rw [← hz]
  by_cases hj : j < e.size
  ·have hj' : j < z.size := by omega
   have hm : (n * e.size + j) % e.size = j := by rw [Nat.add_comm, Nat.add_mul_mod_self_right]; exact Nat.mod_eq_of_lt hj
   grind
  grind
theorem jn (t : TypeId) (cs : Array Value) (w : World) : (newRow t cs).run P w = .ok ⟨w.heap.size, 0, none⟩ (w.alloc (.cells cs t)) := by
 simp [newRow]
theorem Inv.newArr {im : Nat -> Prop} {μ : Mu} {a : Act} {w w1 : World} (hi : Inv C im μ s a w) (h1 : w1.heap = w.heap) (h2 : w1.os = w.os) (h3 : w1.tape = w.tape) (h4 : w1.output = w.output) {d o : Nat} (hd : d < C.n) (h0 : s.hp o = none)
  {cells : Array Value} {T : TypeId} {e : Ty} {xs : List e.den} {cap : Nat} (hcap : xs.length <= cap) (hmax : cap <= maxLen) (fP : cells.size = cap * e.size) (hc : aR (aM w im e) (cells.toList.take (xs.length * e.size)) xs) :
  Inv C im (jj μ o (.row w.heap.size cap)) ⟨(s.put (some d) (.os o 0)).fr, aG s.hp [(o, .arr T e 0 false xs)]⟩ (a.put (some d) (.slice (some ⟨w.heap.size, 0, none⟩) xs.length cap)) (w1.alloc (.cells cells T)) := by
 have fO : ∀ ob, s.hp o = some ob -> cA ob (μ o) (.arr T e 0 false xs) (.row w.heap.size cap) := fun ob h => by rw [h0] at h; cases h
 have hgs : w1.heap.size = w.heap.size := by rw [h1]
 have hw : jk w (w1.alloc (.cells cells T)) (μ o).blk := ⟨h2, h3, h4, by simp [hgs], fun b hb _ => by rw [heap_alloc_old w1 _ (by omega), h1]⟩
 have ev := hi.evObj fO hw
 refine hi.obj1 fO hw ?_ ?_ (fun d' h => by cases h; exact hd) ?_
 ·simp_all [Pl.blk, Option.some.injEq, Nat.le_refl]
 ·refine .inr (.inl ⟨rfl, w.heap.size, cap, cells, rfl, ?_, hcap, hmax, fP, aR.mono (aM.mono ev.fim ev.fheap e) _ _ hc⟩)
  rw [← hgs]; exact heap_alloc_new w1 _
 ·refine ⟨?_, rfl⟩
  simp only [RepA, Value.cells]
  exact ⟨T, e, 0, false, xs, dz _ _ _, Nat.le_refl _, _, rfl, rfl, fun _ => by rw [bE]; rfl⟩
theorem w7 {d o : Nat} {t T : TypeId} {x y : Operand} {e : Ty} {k1 k2 : IntKind} {n : Int} (ht : ElT P t T e) (h0 : s.hp o = none) (hx : s.ev C x = .d (.int k1) n) (hy : s.ev C y = .d (.int k2) n) (hn0 : 0 <= n) (hn : n <= lim) :
  bB P C ⟨some d, .makeSlice t x y, ty, pos, bT, gd⟩ ⟨some d, .os o 0, [], [(o, .arr T e 0 false (List.replicate n.toNat (kg e)))]⟩ s := by
 intro s1 fj fA im μ a w hi hd
 have EY : s1.hp o = none := (fA o (.inr (by simp))).trans h0
 have e1 := eu (((fj x (by simp [Op.operands])).trans hx) ▸ hi.ev x)
 have e2 := eu (((fj y (by simp [Op.operands])).trans hy) ▸ hi.ev y)
 obtain ⟨i, z, iE, lB, wO, hz1, JW⟩ := ht.info
 obtain ⟨m, rfl⟩ := Int.eq_ofNat_of_zero_le hn0
 have hm : m <= 4294967296 := by unfold lim at hn; omega
 have hw : IntKind.i64.wrap (m : Int) = m := by
  unfold IntKind.wrap IntKind.bits IntKind.signed
  simp only [Bool.true_and, decide_eq_true_eq, ge_iff_le]
  rw [Int.emod_eq_of_lt (by omega) (by omega), if_neg (by omega)]
 have hby : (i.bytes : Int) * m <= 2 ^ 48 := by
  have : i.bytes * m <= 4096 * 4294967296 := Nat.mul_le_mul wO hm
  have h2 : ((i.bytes * m : Nat) : Int) <= ((4096 * 4294967296 : Nat) : Int) := Int.ofNat_le.2 this
  rw [Int.natCast_mul] at h2
  omega
 have hzc := j4 JW m
 have hnew := hi.newArr (w1 := w) rfl rfl rfl rfl (hd d rfl) EY (cells := (Array.range (m * e.size)).map (z.cells[· % z.cells.size]!)) (T := T) (e := e) (xs := List.replicate m (kg e)) (cap := m) (by simp) (by unfold maxLen; omega) (by simp)
  (by rw [hzc, List.length_replicate, List.take_of_length_le (by
     have := (aR.replicate (bZ w im e) m).length (aM.length e)
     rw [this]; simp)]; exact aR.replicate (bZ w im e) m)
 rw [List.length_replicate] at hnew
 refine ⟨_, _, im, _, .inl ?_, hnew⟩
 have hn1 : ¬ ((m : Int) < 0) := by omega
 have hn2 : ¬ ((i.bytes : Int) * m > 2 ^ 48) := by omega
 have hS : ∀ w, (sizeOf T).run P w = .ok e.size w := fun w => by simp [sizeOf, typeInfo, iE, lB]
 simp only [execOp, Instr.makeSlice, Sem.run_bind, run_underlying ht.und, Result.andThen_ok, e1, e2, asInt, asIntOf, Sem.run_pure, typeInfo, run_program, iE, hw]
 simp only [Bool.or_eq_true, hn1, hn2, Int.lt_irrefl, or_self, decide_false, if_false, Bool.false_eq_true, gt_iff_lt]
 by_cases hm0 : m = 0
 ·subst hm0
  have hE1 : ∀ f : Nat -> Value, (Array.range 0).map f = #[] := fun f => Array.eq_empty_of_size_eq_zero (by simp)
  simp [jn, run_askRoom, hS, hE1]
 ·have j2 : ¬ (m * e.size = 0) := by
   intro h
   rcases Nat.mul_eq_zero.1 h with h | h
   ·exact hm0 h
   ·have := ht.pos; omega
  simp [jn, run_askRoom, hS, j2, zeroValue, typeInfo, iE, hz1]
theorem lq {t t2 T T2 : TypeId} {i : TypeInfo} (ht : P.underlying t = some (.slice T)) (ht2 : P.underlying t2 = some (.slice T2)) (hi : P.info? T = some i) (w : World) (ty : TypeId) (base b : Option Addr) (n cap c : Nat) (hle : n <= cap) :
  (Builtin.append_ #[t, t2] ty #[.slice base n cap, .slice b 0 c]).run P w = .ok (.slice base n cap) w := by
 cases base <;> cases b <;> simp [Builtin.append_, run_underlying ht, run_underlying ht2, sizeOf, typeInfo, hi, Builtin.lenOf, hle, Builtin.firstCells, loadCells, loadCellsFrom, storeCells]
theorem lK {t T : TypeId} {e : Ty} (ht : ElT P t T e) (w : World) (im : Nat -> Prop) (ty : TypeId) {pl : Pl} {xs ys : List e.den} {v0 v1 : Value}
  (eg : cn pl xs.length v0) (hrow : (∃ a, pl = .nil a /\ xs = []) \/ ∃ b cap cells, pl = .row b cap /\ w.heap[b]? = some (.cells cells T (0, 0)) /\ xs.length <= cap /\ cap <= maxLen /\ cells.size = cap * e.size /\ aR (aM w im e) (cells.toList.take (xs.length * e.size)) xs)
  (hsrc : Xw w im e ys v1) (hlim : xs.length + ys.length <= lim) (iC : ∀ b, pl.blk = some b -> ¬ im b) (_himlt : ∀ b, im b -> b < w.heap.size) :
  ∃ v' w' pz, (Builtin.append_ #[t, t] ty #[v0, v1]).run P w = .ok v' w' /\ jk w w' pl.blk /\ (∀ b, pz.blk = some b -> b < w'.heap.size /\ (pl.blk = some b \/ w.heap.size <= b)) /\
   ((ys = [] /\ pz = pl) \/ ys ≠ []) /\ cn pz (xs ++ ys).length v' /\ v'.oneCell' = true /\
   ((∃ a, pz = .nil a /\ xs ++ ys = []) \/ ∃ b cap cells, pz = .row b cap /\ w'.heap[b]? = some (.cells cells T (0, 0)) /\ (xs ++ ys).length <= cap /\ cap <= maxLen /\ cells.size = cap * e.size /\
    aR (aM w im e) (cells.toList.take ((xs ++ ys).length * e.size)) (xs ++ ys)) := by
 obtain ⟨i, z, iE, lB, wO, hz1, JW⟩ := ht.info
 obtain ⟨a1, c1, rfl, hc1, hs⟩ := hsrc
 by_cases hy : ys = []
 ·subst hy
  rcases hrow with ⟨a, rfl, rfl⟩ | ⟨b, cap, cells, rfl, hb, h1, h2, h3, h4⟩
  ·simp only [cn] at eg
   subst eg
   exact ⟨_, w, .nil a, lq ht.und ht.und iE w ty a a1 0 0 c1 (Nat.le_refl _), ⟨rfl, rfl, rfl, Nat.le_refl _, fun _ _ _ => rfl⟩, (fun b h => by cases h), .inl ⟨rfl, rfl⟩, rfl, rfl, .inl ⟨a, rfl, rfl⟩⟩
  ·simp only [cn] at eg
   subst eg
   have bJ : b < w.heap.size := (Array.getElem?_eq_some_iff.1 hb).1
   refine ⟨_, w, .row b cap, lq ht.und ht.und iE w ty _ a1 _ cap c1 h1, ⟨rfl, rfl, rfl, Nat.le_refl _, fun _ _ _ => rfl⟩, fun k h => ?_, .inl ⟨rfl, rfl⟩, by simp [cn], rfl, .inr ⟨b, cap, cells, rfl, hb, by simpa using h1, h2, h3, by simpa using h4⟩⟩
   cases h
   exact ⟨bJ, .inl rfl⟩
 ·rcases hs with hs | ⟨sb, soff, JX, rfl, hsc, PD⟩
  ·exact (hy hs).elim
  ·have EX := aR.length (aM.length e) _ _ PD
   have hone := aR.one (aM.one e) _ _ PD
   have hyl : 0 < ys.length := List.length_pos_iff.2 hy
   have hlim' : xs.length + ys.length <= 4294967296 := hlim
   have hbytes : (xs.length + ys.length) * i.bytes <= 140737488355328 := by
    have := Nat.mul_le_mul hlim' wO; omega
   have hnews : ∀ j v, JX[j]? = some v -> w.cell? ((⟨sb, soff, none⟩ : Addr).add j) = some v := fun j v hj => by rw [cT]; exact hsc j v hj
   have grow : ∀ (b0 : Addr) (n0 cap0 : Nat) (olds : List Value), n0 = xs.length -> cap0 < xs.length + ys.length -> olds.length = n0 * e.size -> (∀ j v, olds[j]? = some v -> w.cell? (b0.add j) = some v) -> aR (aM w im e) olds xs -> 
     ∀ (oldBlk : Option Nat), ∃ v' w' pz, (Builtin.append_ #[t, t] ty #[.slice (some b0) n0 cap0, .slice (some ⟨sb, soff, none⟩) ys.length c1]).run P w = .ok v' w' /\ jk w w' oldBlk /\ (∀ b, pz.blk = some b -> b < w'.heap.size /\ (oldBlk = some b \/ w.heap.size <= b)) /\
      cn pz (xs ++ ys).length v' /\ v'.oneCell' = true /\
      (∃ b cap cells, pz = .row b cap /\ w'.heap[b]? = some (.cells cells T (0, 0)) /\ (xs ++ ys).length <= cap /\ cap <= maxLen /\ cells.size = cap * e.size /\ aR (aM w im e) (cells.toList.take ((xs ++ ys).length * e.size)) (xs ++ ys)) := by
    intro b0 n0 cap0 olds hn0 hcap0 hol holds hrepo oldBlk
    subst hn0
    have hr := run_append_grow (P := P) w t ty T i z ht.und iE hz1 b0 xs.length cap0 olds (by rw [lB]; exact hol) holds ⟨sb, soff, none⟩ ys.length c1 JX (by rw [lB]; exact EX) hnews hcap0 (by omega) (growslice_fits hcap0 hbytes)
    have uA := grownCap_ge w (xs.length + ys.length) cap0 T
    have Hr := grownCap_le_maxLen w (xs.length + ys.length) cap0 T (by unfold maxLen; omega)
    refine ⟨_, _, .row w.heap.size (grownCap w (xs.length + ys.length) cap0 T), hr, ⟨rfl, rfl, rfl, by simp, fun k hk _ => heap_alloc_old w.drew _ hk⟩, fun b h => ?_, by simp [cn], rfl, w.heap.size, _, _, rfl, heap_alloc_new w.drew _, by simpa using uA, Hr, ?_, ?_⟩
    ·cases h; exact ⟨by simp, .inr (Nat.le_refl _)⟩
    ·have hzsz : z.cells.size = e.size := by rw [← Array.length_toList, JW, (bZ (default : World) (fun _ => True) e).length]
     simp only [Array.size_append, List.size_toArray, size_zeroCells, hzsz, hol, EX, ← Nat.add_mul]
     congr 1
     omega
    ·have hlen : (xs ++ ys).length * e.size = (olds ++ JX).length := by rw [List.length_append, List.length_append, hol, EX, Nat.add_mul]
     simp only [Array.toList_append]
     rw [hlen, List.take_left]
     exact aR.append _ _ _ _ hrepo PD
   rcases hrow with ⟨a, rfl, rfl⟩ | ⟨b, cap, cells, rfl, hb, h1, h2, h3, h4⟩
   ·simp only [cn] at eg
    subst eg
    cases a with
    | none =>
     have hr := run_append_nil (P := P) w t ty T i z ht.und iE hz1 ⟨sb, soff, none⟩ ys.length c1 JX (by rw [lB]; exact EX) hnews hyl (by simp at hlim'; omega) (by simp at hbytes; omega)
     have uA := grownCap_ge w ys.length 0 T
     have Hr := grownCap_le_maxLen w ys.length 0 T (by unfold maxLen; simp at hlim'; omega)
     refine ⟨_, _, .row w.heap.size (grownCap w ys.length 0 T), hr, ⟨rfl, rfl, rfl, by simp, fun k hk _ => heap_alloc_old w.drew _ hk⟩, fun b h => ?_, .inr hy, by simp [cn], rfl, .inr ⟨w.heap.size, _, _, rfl, heap_alloc_new w.drew _, by simpa using uA, Hr, ?_, ?_⟩⟩
     ·cases h; exact ⟨by simp, .inr (Nat.le_refl _)⟩
     ·have hzsz : z.cells.size = e.size := by rw [← Array.length_toList, JW, (bZ (default : World) (fun _ => True) e).length]
      simp only [Array.size_append, List.size_toArray, size_zeroCells, hzsz, EX, ← Nat.add_mul]
      congr 1
      omega
     ·simp only [Array.toList_append, List.nil_append]
      rw [← EX, List.take_left]
      exact PD
    | some ad =>
     obtain ⟨v', w', pz, g1, g2, g3, g4, g5, g6⟩ := grow ad 0 0 [] rfl (by simpa using hyl) (by simp) (by simp) rfl none
     exact ⟨v', w', pz, g1, g2, g3, .inr hy, g4, g5, .inr g6⟩
   ·simp only [cn] at eg
    subst eg
    by_cases hroom : xs.length + ys.length <= cap
    ·have hle : (xs.length + ys.length) * e.size <= cap * e.size := Nat.mul_le_mul_right _ hroom
     rw [Nat.add_mul] at hle
     have hr := run_append_room (P := P) w t ty T i ht.und iE b xs.length cap cells hb ⟨sb, soff, none⟩ ys.length c1 JX (by rw [lB]; exact EX) hnews hone hroom (by rw [lB, EX, h3]; exact hle)
     have bJ : b < w.heap.size := (Array.getElem?_eq_some_iff.1 hb).1
     rw [lB] at hr
     refine ⟨_, _, .row b cap, hr, ⟨rfl, rfl, rfl, by simp [World.setRow], fun k _ hk => setRow_other w b k _ (fun he => hk (by rw [he]; rfl))⟩, fun k h => ?_, .inr hy, by simp [cn], rfl, .inr ⟨b, cap, _, rfl, setRow_heap w b cells _ T _ hb, by simpa using hroom, h2, ?_, ?_⟩⟩
     ·cases h; exact ⟨by simpa [World.setRow] using bJ, .inl rfl⟩
     ·have hx : xs.length * e.size <= cap * e.size := Nat.mul_le_mul_right _ h1
      simp only [List.size_toArray, List.length_append, List.length_take, List.length_drop, Array.length_toList, h3, EX]
      omega
     ·have hx : xs.length * e.size <= cap * e.size := Nat.mul_le_mul_right _ h1
      have Ho : (cells.toList.take (xs.length * e.size)).length = xs.length * e.size := by simp only [List.length_take, Array.length_toList, h3]; omega
      have hlen : (xs ++ ys).length * e.size = (cells.toList.take (xs.length * e.size) ++ JX).length := by rw [List.length_append, List.length_append, Ho, EX, Nat.add_mul]
      rw [hlen, List.take_left]
      exact aR.append _ _ _ _ h4 PD
    ·have hx : xs.length * e.size <= cap * e.size := Nat.mul_le_mul_right _ h1
     have hca := (cp hb).sub 0 (xs.length * e.size)
     simp only [List.drop_zero, Nat.add_zero] at hca
     obtain ⟨v', w', pz, g1, g2, g3, g4, g5, g6⟩ := grow ⟨b, 0, none⟩ xs.length cap _ rfl (by omega) (by simp only [List.length_take, Array.length_toList, h3]; omega) (fun j v hj => by rw [cT]; exact hca j v hj) h4 (some b)
     exact ⟨v', w', pz, g1, g2, g3, .inr hy, g4, g5, .inr g6⟩
theorem w8 {t T : TypeId} {x y : Operand} {o n : Nat} {e : Ty} {xs ys : List e.den} {av : AV} (ht : ElT P t T e) (hx : s.ev C x = .os o n) (ho : s.hp o = some (.arr T e n false xs)) (hy : s.ev C y = av) (hs : Src s.hp av e ys)
  (hlim : xs.length + ys.length <= lim) :
  bB P C ⟨dst, .call ⟨.builtin .append, #[x, y], #[t, t]⟩, ty, pos, bT, gd⟩ ⟨dst, .os o (n + 1), av.objs, [(o, .arr T e (n + 1) false (xs ++ ys))]⟩ s := by
 intro s1 fj fA im μ a w hi hd
 have rG : s1.ev C x = .os o n := (fj x (by simp [Op.operands, Call.operands])).trans hx
 have hy1 : s1.ev C y = av := (fj y (by simp [Op.operands, Call.operands])).trans hy
 have uB : s1.hp o = some (.arr T e n false xs) := (fA o (.inr (by simp))).trans ho
 have q8 : Src s1.hp av e ys := hs.hp (fun k hk => fA k (.inl hk))
 have hsrc := q8.sound (hy1 ▸ hi.ev y) hi.obj
 obtain ⟨hr, cy⟩ := rG ▸ hi.ev x
 simp only [RepA] at hr
 obtain ⟨T', e', m', z', px, dS, hle, u, hc, h1, eg⟩ := hr
 rw [uB] at dS
 cases dS
 have hpl2 := eg rfl
 clear eg
 have hv : a.eval x = u := by
  have : (a.eval x).cells.toList = [u] := hc
  generalize a.eval x = v at this cy
  cases v <;> simp_all [Value.cells, aY, AV.isAgg]
 obtain ⟨v', w', pz, g1, g2, g3, g4, g5, g6, g7⟩ := lK ht w im ty hpl2 (by
  rcases hi.obj o _ uB with h | ⟨_, h⟩ | ⟨h, _⟩
  ·exact .inl h
  ·exact .inr h
  ·cases h) hsrc hlim (fun b hb => (hi.sep o b hb).1) hi.imLt
 have fO : ∀ ob, s1.hp o = some ob -> cA ob (μ o) (.arr T e (n + 1) false (xs ++ ys)) pz := by
  intro ob dK
  rw [uB] at dK
  obtain rfl := Option.some.inj dK
  exact ⟨_, _, _, rfl, .inr (Nat.lt_succ_self _)⟩
 have ev := hi.evObj fO g2
 refine ⟨v', w', im, _, .inl ?_, hi.obj1 fO g2 g3 ?_ hd ?_⟩
 ·simp only [execOp, resolve, invoke, builtin, Sem.run_bind, Sem.run_pure, Result.andThen_ok, List.map_toArray, List.map_cons, List.map_nil, hv, g1]
 ·rcases g7 with ⟨b, h2, h3⟩ | ⟨b, cap, cells, h2, h3, h4, h5, h6, h7⟩
  ·exact .inl ⟨b, h2, h3⟩
  ·exact .inr (.inl ⟨rfl, b, cap, cells, h2, h3, h4, h5, h6, aR.mono (aM.mono ev.fim ev.fheap e) _ _ h7⟩)
 ·refine bo.ofA ?_ (by cases v' <;> simp_all [Value.oneCell', aY, AV.isAgg])
  simp only [RepA]
  exact ⟨T, e, _, _, _, dz _ _ _, Nat.le_refl _, v', by rw [(mo g6).1], g6, fun _ => by rw [bE]; exact g5⟩
theorem ni {d : Option Tmp} {o : Nat} {t T : TypeId} {x y : Operand} {e : Ty} {ys : List e.den} {av : AV} (ht : ElT P t T e) (h0 : s.hp o = none) (hx : s.ev C x = .nils \/ s.ev C x = .emp) (hy : s.ev C y = av) (hs : Src s.hp av e ys)
  (hlim : ys.length <= lim) :
  bB P C ⟨d, .call ⟨.builtin .append, #[x, y], #[t, t]⟩, ty, pos, bT, gd⟩ ⟨d, .os o 0, av.objs, [(o, .arr T e 0 false ys)]⟩ s := by
 intro s1 fj fA im μ a w hi hd
 have rG : s1.ev C x = s.ev C x := fj x (by simp [Op.operands, Call.operands])
 have hy1 : s1.ev C y = av := (fj y (by simp [Op.operands, Call.operands])).trans hy
 have EY : s1.hp o = none := (fA o (.inr (by simp))).trans h0
 have q8 : Src s1.hp av e ys := hs.hp (fun k hk => fA k (.inl hk))
 have hsrc := q8.sound (hy1 ▸ hi.ev y) hi.obj
 obtain ⟨ad, hv⟩ : ∃ ad, a.eval x = .slice ad 0 0 := by
  have hrx := hi.ev x
  rw [rG] at hrx
  rcases hx with hx | hx <;> rw [hx] at hrx <;> obtain ⟨hr, cy⟩ := hrx <;> simp only [RepA] at hr
  ·exact ⟨none, aL hr cy⟩
  ·obtain ⟨ad, hr⟩ := hr; exact ⟨ad, aL hr cy⟩
 obtain ⟨v', w', pz, g1, g2, g3, g4, g5, g6, g7⟩ := lK (xs := []) ht w im ty (pl := .nil ad) (v0 := .slice ad 0 0) rfl (.inl ⟨ad, rfl, rfl⟩) hsrc (by simpa using hlim) (fun b hb => by cases hb) hi.imLt
 simp only [List.nil_append] at g5 g7
 have fO : ∀ ob, s1.hp o = some ob -> cA ob (μ o) (.arr T e 0 false ys) pz := fun ob dK => by rw [EY] at dK; cases dK
 have hw : jk w w' (μ o).blk := by
  rw [hi.dom o EY]; exact g2
 have ev := hi.evObj fO hw
 refine ⟨v', w', im, _, .inl ?_, hi.obj1 fO hw (fun b hb => ⟨(g3 b hb).1, .inr ?_⟩) ?_ hd ?_⟩
 ·simp only [execOp, resolve, invoke, builtin, Sem.run_bind, Sem.run_pure, Result.andThen_ok, List.map_toArray, List.map_cons, List.map_nil, hv, g1]
 ·rcases (g3 b hb).2 with h | h
  ·cases h
  ·exact h
 ·rcases g7 with ⟨b, h2, h3⟩ | ⟨b, cap, cells, h2, h3, h4, h5, h6, h7⟩
  ·exact .inl ⟨b, h2, h3⟩
  ·exact .inr (.inl ⟨rfl, b, cap, cells, h2, h3, h4, h5, h6, aR.mono (aM.mono ev.fim ev.fheap e) _ _ h7⟩)
 ·refine bo.ofA ?_ (by cases v' <;> simp_all [Value.oneCell', aY, AV.isAgg])
  simp only [RepA]
  exact ⟨T, e, _, _, _, dz _ _ _, Nat.le_refl _, v', by rw [(mo g6).1], g6, fun _ => by rw [bE]; exact g5⟩
end
end Go.Vm
