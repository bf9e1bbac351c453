/- Part Q of the abstract machine: the executor of code, and that it is right. -/
import Derived.Test.YtnkhoojomojbpaaGreatDoorK18
namespace Go.Vm
variable {R : Type}
def sF (E : Env) (dst : Option Tmp) (c : Call) (s : LSt) (k : E1 -> Option R) (kp : TypeId -> Int -> LHp -> Option R) : Option R :=
 match c.callee with
 | .value x =>
  (match s.ev E x with
  | .fn (.func f) [] cap =>
   (match lk E.calls f with
   | some g => lR g (evs E s c.args.toList ++ cap) s k kp
   | none =>
    (match cap, lk E.exts f with
    | [], some g => g.run (evs E s c.args.toList) fun av => k (s.pv av)
    | _, _ => none))
  | .ref q => (match E.round with | some g => mF g q (evs E s c.args.toList) s k | none => none)
  | _ => none)
 | .builtin b =>
  (match b, c.args.toList, c.argTypes.toList with
  | .len, [x], [t] => vF E t x s k
  | .append, [x, y], [t, t2] => bif Nat.beq t t2 then km E t t2 x y s k else (match dst with | some _ => jb E t t2 x y s k | none => none)
  | .cap, [x], [t] => vE E t x s k
  | .max, [x, y], _ => vG E x y s k
  | .min, [x, y], _ => vH E x y s k
  | .copy, [x, y], [t, _] => pM E t x y s k
  | _, _, _ => none)
 | .invoke _ _ => none
def op1 (E : Env) (o : Oper) (s : LSt) (k : E1 -> Option R) (kp : TypeId -> Int -> LHp -> Option R) : Option R :=
 match o.op with
 | .move x => k (s.pv (s.ev E x))
 | .assign x => k (s.pv (s.ev E x))
 | .pick c x y => pG E c x y s k
 | .alloc t => (match o.dst with | some _ => mv E t s k | none => none)
 | .box _ x => (match o.dst with | some _ => vD E x s k | none => none)
 | .build t ps => mB E t ps s k
 | .buildSlice t n ps => (match o.dst with | some _ => vI E t n ps s k | none => none)
 | .load t x => pI E t x s k
 | .store t x y => (match o.dst with | some _ => none | none => mw E t x y s k)
 | .nilCheck x => vK E x s k
 | .binOp b xt x y _ => vC E b xt x y s k
 | .unOp u _ x => HP E u x s k
 | .convert st dt x => pH E st dt x s k
 | .makeInterface t x => mC E t x s k
 | .makeFunc f a b => pL E f a b s k
 | .makeSlice t x y => (match o.dst with | some _ => pK E t x y s k | none => none)
 | .slice t x lo hi mx => mA E (Qn o.pos) (XE o.pos) t x lo hi mx s k
 | .fieldAddr t x f => fJ E t x f s k
 | .field t x f => my E t x f s k
 | .indexAddr t x y => fK E t x y s k
 | .index t x y => mz E t x y s k
 | .typeAssert x _ t ok => ko E x t ok s k
 | .extract x i => jd E x i s k
 | .call c => sF E o.dst c s k kp
 | .panic x => (match s.ev E x with | .iface t (.d (.int .i64) n) => kp t n [] | _ => none)
 | _ => none
section
variable {E : Env} {C : Ctx} {s : LSt} {k : E1 -> Option R} {kp : TypeId -> Int -> LHp -> Option R} {r : R}
theorem xq (hE : E.Good) (bt : C.Γ = E.gam) {o : Oper} (h : op1 E o s k kp = some r) : dD E C o s k r \/ ∃ t n wr, kp t n wr = some r /\ Al E C o s t n wr := by
 obtain ⟨dst, op, ty, pos, bT, gd⟩ := o
 unfold op1 at h
 cases op with
 | move x => exact .inl (.of _ h (P9 (bC bt s x)))
 | assign x => exact .inl (.of _ h (HB (bC bt s x)))
 | pick c x y => exact .inl (HQ bt h)
 | alloc t => cases dst with
  | none => cases h
  | some d => exact .inl (Dy hE.toOK h)
 | box t x => cases dst with
  | none => cases h
  | some d => exact .inl (Kv bt h)
 | build t ps => exact .inl (DE hE.toOK bt h)
 | buildSlice t n ps => cases dst with
  | none => cases h
  | some d => exact .inl (KB hE.toOK bt h)
 | load t x => exact .inl (HS bt h)
 | store t x y => cases dst with
  | none => exact .inl (DA bt h)
  | some d => cases h
 | nilCheck x => exact .inl (KE bt h)
 | binOp b xt x y yt => exact .inl (Ku bt h)
 | unOp u xt x => exact .inl (Qm bt h)
 | convert st dt x => exact .inl (HR bt h)
 | makeInterface t x => exact .inl (DF bt h)
 | makeFunc f a b => exact .inl (HX bt h)
 | makeSlice t x y => cases dst with
  | none => cases h
  | some d => exact .inl (HW hE.toOK bt h)
 | slice t x lo hi mx => exact .inl (DD bt h)
 | fieldAddr t x f => exact .inl (sl bt h)
 | field t x f => exact .inl (DB bt h)
 | indexAddr t x y => exact .inl (sm bt h)
 | index t x y => exact .inl (DC hE.toOK bt h)
 | typeAssert x xt t ok => exact .inl (Ai bt h)
 | extract x i => exact .inl (xn bt h)
 | panic x =>
  simp only at h
  split at h
  ·rename_i t n hx
   refine .inr ⟨t, n, [], h, fun s1 fj fA a w hr hd K Q hQ => ?_⟩
   have hrr := hr
   obtain ⟨im, μ, hi⟩ := hr
   have hv : a.eval x = .iface t (.int .i64 n) := se (((fj x (by simp [Op.operands])).trans ((bC bt s x).trans hx)) ▸ hi.ev x)
   refine ⟨fun f _ => nA _ f, ?_⟩
   rw [Oper.semAt_eq _ _ _ (by intro c hc; cases hc)]
   have hrun : (execOp a.eval ⟨dst, .panic x, ty, pos, bT, gd⟩).run E.P w = .halt (.panic (.iface t (.int .i64 n))) w := by
    simp only [execOp, hv, Instr.panic]
    rfl
   rw [hrun, Oper.uponIn_panic]
   have he : (⟨s1.fr, aG s1.hp []⟩ : ASt) = s1 := by
    rfl
   grind
  ·cases h
 | call c =>
  obtain ⟨callee, xs, at'⟩ := c
  simp only [sF] at h
  cases callee with
  | value x =>
   simp only at h
   split at h
   ·rename_i f cap hx
    split at h
    ·rename_i g hg
     exact KF hE bt rfl hx (hE.calls _ (fh hg)) h
    ·split at h
     ·rename_i g hg
      obtain ⟨av, hk, hrun⟩ := (hE.exts _ (fh hg)).ok _ _ _ h
      refine .inl (.of _ hk (df [] fun w im μ hp ρ hr _ _ => ?_))
      have hxr := hr x (by simp [Op.operands, Call.operands])
      rw [bC bt, hx] at hxr
      obtain ⟨C2, cy⟩ := hxr
      simp only [RepA, RepFs] at C2
      obtain ⟨vs, us, hcell, rfl, rfl⟩ := C2
      have hv : ρ x = .func (.func f) #[] #[] := by
       generalize ρ x = v at hcell cy
       cases v <;> simp_all [Value.cells, aY, AV.isAgg]
      obtain ⟨v, w', h1, h2, h3, h4, h5, h6⟩ := hrun w im μ hp (xs.toList.map ρ) (by rw [← kV bt]; simp) (by
       intro i a v ha hv
       rw [← kV bt] at ha
       rw [List.getElem?_map, Option.map_eq_some_iff] at ha hv
       obtain ⟨y, hy, rfl⟩ := ha
       obtain ⟨y', hy', rfl⟩ := hv
       obtain rfl : y = y' := Option.some.inj (hy.symm.trans hy')
       exact hr y (by simp only [Op.operands, Call.operands, Array.toList_append]; exact List.mem_append.2 (.inr (List.mem_of_getElem? hy))))
      refine ⟨v, w', ?_, h2, h3, h4, h5, h6⟩
      have e : xs.map ρ ++ #[] = (xs.toList.map ρ).toArray := by apply Array.ext'; simp
      simp only [execOp, resolve, hv, Deferred.ofValue, Sem.run_bind, Sem.run_pure, Result.andThen_ok, invoke, Array.empty_append]
      rw [e]; exact h1
     ·cases h
   ·rename_i q hx
    split at h
    ·rename_i g hg
     exact .inl (DG hE bt rfl hx (hE.round _ hg) h)
    ·cases h
   ·cases h
  | builtin b =>
   simp only at h
   split at h
   ·rename_i x t h1 h2
    have e1 : xs = #[x] := by apply Array.ext'; simpa using h1
    have e2 : at' = #[t] := by apply Array.ext'; simpa using h2
    subst e1 e2
    exact .inl (Ky bt h)
   ·rename_i x y t t2 h1 h2
    have e1 : xs = #[x, y] := by apply Array.ext'; simpa using h1
    have e2 : at' = #[t, t2] := by apply Array.ext'; simpa using h2
    subst e1 e2
    cases htt : Nat.beq t t2 with
    | true => rw [htt] at h; exact .inl (Ag hE.toOK bt h)
    | false =>
     rw [htt] at h
     simp only [ax] at h
     cases dst with
     | none => cases h
     | some d => exact .inl (xk hE.toOK bt h)
   ·rename_i x t h1 h2
    have e1 : xs = #[x] := by apply Array.ext'; simpa using h1
    have e2 : at' = #[t] := by apply Array.ext'; simpa using h2
    subst e1 e2
    exact .inl (Kx bt h)
   ·rename_i x y h1
    have e1 : xs = #[x, y] := by apply Array.ext'; simpa using h1
    subst e1
    exact .inl (Kz bt h)
   ·rename_i x y h1
    have e1 : xs = #[x, y] := by apply Array.ext'; simpa using h1
    subst e1
    exact .inl (KA bt h)
   ·rename_i x y t t2 h1 h2
    have e1 : xs = #[x, y] := by apply Array.ext'; simpa using h1
    have e2 : at' = #[t, t2] := by apply Array.ext'; simpa using h2
    subst e1 e2
    exact .inl (HZ bt h)
   ·cases h
  | invoke a b => cases h
 | _ => cases h
end
def LSt.set (s : LSt) (x : Nat) (a : AV) : LSt := ⟨s.fr.set x a, s.hp, s.nx⟩
def pP (ops : Array Oper) (j : Nat) : Option Nat := match ops[j]? with | some oj => oj.dst | none => none
theorem sG {ops : Array Oper} {j g : Nat} (h : pP ops j = some g) : (ops[j]?).bind (·.dst) = some g := by
 grind [pP]
def nH (n : Nat) (ops : Array Oper) (o : Oper) (s : LSt) (on off : LSt -> Option R) : Option R :=
 match o.guard with
 | none => on s
 | some (j, want) =>
  (match pP ops j with
  | some g =>
   bif Nat.blt g n then
    (match s.fr.get g with
    | .d .bool b => bif b then (bif want then on (s.set g (.d .bool true)) else off (s.set g (.d .bool true))) else (bif want then off (s.set g (.d .bool false)) else on (s.set g (.d .bool false)))
    | .tup [] => off s
    | _ => none)
   else none
  | none => none)
def sH (s : LSt) : E1 := ⟨.tup [], [], [], s.nx⟩
def An (E : Env) (n : Nat) (ops : Array Oper) : List Oper -> LSt -> (LSt -> Option R) -> (TypeId -> Int -> LSt -> Option R) -> Option R
 | [], s, k, _ => k s
 | o :: l, s, k, kp =>
  nH n ops o s (fun s1 => op1 E o s1 (fun e => An E n ops l (s1.app o.dst e) k kp) (fun t m wr => kp t m ⟨s1.fr, wr ++ s1.hp, s1.nx⟩))
   (fun s1 => An E n ops l (s1.app o.dst (sH s1)) k kp)
def DH (E : Env) (o : Oper) (s : LSt) (k : E1 -> Option R) (kp : TypeId -> Int -> LHp -> Option R) : Option R :=
 match o.op with
 | .call ⟨.value x, xs, _⟩ =>
  (match s.ev E x with
  | .fn (.func f) [] cap =>
   (match lk E.calls f with
   | some g => lR g (evs E s xs.toList ++ cap) s (fun e => k (KG s.hp e)) kp
   | none => op1 E o s k kp)
  | _ => op1 E o s k kp)
 | _ => op1 E o s k kp
theorem Fg {E : Env} {C : Ctx} {s : LSt} {k : E1 -> Option R} {kp : TypeId -> Int -> LHp -> Option R} {r : R} (hE : E.Good) (bt : C.Γ = E.gam) {o : Oper} (h : DH E o s k kp = some r) : dD E C o s k r \/ ∃ t n wr, kp t n wr = some r /\ Al E C o s t n wr := by
 unfold DH at h
 split at h
 ·rename_i x xs ts ho
  split at h
  ·rename_i f cap hx
   split at h
   ·rename_i g hg
    exact H0 hE bt ho hx (hE.calls _ (fh hg)) h
   ·exact xq hE bt h
  ·exact xq hE bt h
 ·exact xq hE bt h
def Qp (ops : Array Oper) (o : Oper) (ks : List Eff) : Bool :=
 o.guard.isNone && dU ops (ks.reverse ++ Eff.bad o.dst :: ((ops.toList.drop (ks.length + 1)).map (·.dst)).map Eff.bad2) (ops.toList.foldl (fun acc o => acc ++ [n3 o acc]) []) &&
 ((List.range ops.size).all fun j => Nat.ble j ks.length || ((ops.toList.foldl (fun acc o => acc ++ [n3 o acc]) []).getD j 0).testBit ks.length) &&
 (List.range ks.length).all fun j => ((ops.toList.foldl (fun acc o => acc ++ [n3 o acc]) []).getD ks.length 0).testBit j
def Ao (E : Env) (ops : Array Oper) (cl : List Nat) (m q : Nat) : List Oper -> Nat -> LSt -> List Nat -> List Eff -> (List Eff -> Option R) -> Option R
 | [], _, _, _, ks, k => k ks
 | o :: l, i, s, dy, ks, k =>
  bif (cl.getD i 0).testBit m then Ao E ops cl m q l (i + 1) s (zz o.dst ++ dy) (Hw q o.dst :: ks) k
  else bif o.guard.isNone && (o.looksAt ops).all (fun x => !dy.any (Nat.beq x)) then
   DH E o s (fun e => bif e.rd.all (fun x => !Nat.beq x q) && e.wr.all (fun p => !Nat.beq p.1 q) then Ao E ops cl m q l (i + 1) (s.app o.dst e) dy ((e.eff o.dst).key :: ks) k else none) (fun _ _ _ => none)
  else none
def DI : List Nat -> List Nat -> List Nat
 | [], acc => acc
 | a :: l, acc => bif acc.any (Nat.beq a) then DI l acc else DI l (a :: acc)
def uK (l : List Nat) : Sg := l.map fun o => (o, o, .keep)
def H2 (E : Env) (ops : Array Oper) (o : Oper) (l : List Oper) (s : LSt) (ks : List Eff) (wr : LHp) (kp : LSt -> Option R) : Option R :=
 let hp := wr ++ s.hp
 let L := DI (hp.map (·.1)) []
 let cl := ops.toList.foldl (fun acc o => acc ++ [n3 o acc]) []
 let q := s.nx + 1000000
 bif o.guard.isNone && (uK L).good then
  (match jO hp (uK L) (uK L) with
  | some bp => Ao E ops cl ks.length q l (ks.length + 1) s (zz o.dst) [] fun ks2 =>
   bif dU ops (ks.reverse ++ uC q L o.dst :: ks2.reverse) cl then kp ⟨s.fr.clr, bp, s.nx⟩ else none
  | none => none)
 else none
def uL (E : Env) (n : Nat) (ops : Array Oper) : List Oper -> LSt -> List Eff -> (LSt -> Option R) -> (TypeId -> Int -> LSt -> Option R) -> Option R
 | [], s, ks, k, _ => bif dU ops ks.reverse (ops.toList.foldl (fun acc o => acc ++ [n3 o acc]) []) then k s else none
 | o :: l, s, ks, k, kp =>
  nH n ops o s (fun s1 => DH E o s1 (fun e => uL E n ops l (s1.app o.dst e) ((e.eff o.dst).key :: ks) k kp) (fun t m wr => bif Qp ops o ks then kp t m ⟨s1.fr, wr ++ s1.hp, s1.nx⟩ else H2 E ops o l s1 ks wr (kp t m)))
   (fun s1 => uL E n ops l (s1.app o.dst (sH s1)) (((sH s1).eff o.dst).key :: ks) k kp)
def LSt.fits (s : LSt) (n : Nat) : Prop := ∀ x, x < n -> s.fr.has x = true
theorem oo {s : LSt} {n : Nat} (hf : s.fits n) {dst : Option Nat} (hd : ∀ d, dst = some d -> d < n) (e : E1) : (s.app dst e).toA = (e.eff dst).app s.toA := by
 unfold LSt.app LSt.toA Eff.app E1.eff
 simp only
 congr 1
 ·cases dst with
  | none => rfl
  | some d =>
   funext x
   simp only [ASt.put, ly]
   rw [Tr.get_set _ _ _ _ (hf d (hd d rfl))]
 ·exact a8 _ _
theorem lS {s : LSt} {n : Nat} (hf : s.fits n) (dst : Option Nat) (e : E1) : (s.app dst e).fits n := by
 intro x hx
 unfold LSt.app
 cases dst with
 | none => exact hf x hx
 | some d => simp only [Tr.has_set]; exact hf x hx
theorem fT {s : LSt} {n : Nat} (hf : s.fits n) (x : Nat) (a : AV) : (s.set x a).fits n := by
 intro y hy
 simp only [LSt.set, Tr.has_set]; exact hf y hy
theorem oq {s : LSt} {n x : Nat} {a : AV} (hf : s.fits n) (hx : x < n) (ha : s.fr.get x = a) : (s.set x a).toA = s.toA := by
 unfold LSt.set LSt.toA
 simp only
 congr 1
 funext y
 rw [Tr.get_set _ _ _ _ (hf x hx)]
 grind [Nat.beq, bj]
section
variable {E : Env} {C : Ctx} {r : R} {Q : AEx -> ASt -> Prop} {ops : Array Oper}
theorem qs {n : Nat} {o : Oper} {s : LSt} {on off : LSt -> Option R} (hn : C.n = n) (hf : s.fits n) (h : nH n ops o s on off = some r) :
  (∃ s1 : LSt, s1.toA = s.toA /\ s1.fits n /\ on s1 = some r /\ (o.guard = none \/ ∃ j want g, o.guard = some (j, want) /\ (ops[j]?).bind (·.dst) = some g /\ g < C.n /\ s.toA.fr g = .d .bool want)) \/
  (∃ s1 : LSt, s1.toA = s.toA /\ s1.fits n /\ off s1 = some r /\ ∃ j want g, o.guard = some (j, want) /\ (ops[j]?).bind (·.dst) = some g /\ g < C.n /\ (s.toA.fr g = .d .bool (!want) \/ s.toA.fr g = .tup [])) := by
 unfold nH at h
 split at h
 ·grind
 ·rename_i j want hg
  split at h
  ·rename_i g hgs
   cases bJ : Nat.blt g n with
   | false => rw [bJ] at h; cases h
   | true =>
    rw [bJ] at h
    have JU : g < n := Nat.le_of_ble_eq_true bJ
    have hgs' := sG hgs
    simp only [ai] at h
    split at h
    ·rename_i b hb
     cases b with
     | true =>
      cases want with
      | true => exact .inl ⟨_, oq hf JU hb, fT hf _ _, h, .inr ⟨j, true, g, hg, hgs', (by rw [hn]; exact JU), hb⟩⟩
      | false => exact .inr ⟨_, oq hf JU hb, fT hf _ _, h, j, false, g, hg, hgs', (by rw [hn]; exact JU), .inl hb⟩
     | false =>
      cases want with
      | true => exact .inr ⟨_, oq hf JU hb, fT hf _ _, h, j, true, g, hg, hgs', (by rw [hn]; exact JU), .inl hb⟩
      | false => exact .inl ⟨_, oq hf JU hb, fT hf _ _, h, .inr ⟨j, false, g, hg, hgs', (by rw [hn]; exact JU), hb⟩⟩
    ·rename_i hb
     exact .inr ⟨s, rfl, hf, h, j, want, g, hg, hgs', (by rw [hn]; exact JU), .inr hb⟩
    ·cases h
  ·cases h
theorem nI {i : Nat} {o : Oper} {e : Eff} {s : ASt} (ho : ops[i]? = some o) (hd : e.dst = o.dst) (h : OpW E.P C o e s)
  (hg : o.guard = none \/ ∃ j want g, o.guard = some (j, want) /\ (ops[j]?).bind (·.dst) = some g /\ g < C.n /\ s.fr g = .d .bool want) : jg E.P C ops i s e := by
 grind [Da, P8]
theorem np {i : Nat} {o : Oper} {s : ASt} (ho : ops[i]? = some o)
  (hg : ∃ j want g, o.guard = some (j, want) /\ (ops[j]?).bind (·.dst) = some g /\ g < C.n /\ (s.fr g = .d .bool (!want) \/ s.fr g = .tup [])) : jg E.P C ops i s ⟨o.dst, .tup [], [], []⟩ := by
 grind [Kg, HA]
theorem KH {K : ASt -> Prop} {i : Nat} {o : Oper} {s : LSt} {t : TypeId} {n : Int} {wr : LHp} (hn : cz ops C.n = true) (lD : ops[i]? = some o)
  (hg : o.guard = none \/ ∃ j want g, o.guard = some (j, want) /\ (ops[j]?).bind (·.dst) = some g /\ g < C.n /\ s.toA.fr g = .d .bool want)
  (hp : Al E C o s t n wr) (hQ : Q (.panic t n) ⟨s.fr.get, aG (aA s.hp) wr⟩) : C5 E.P C ops Q i s.toA K := by
 intro a w hr
 have fc : i < ops.size := (Array.getElem?_eq_some_iff.1 lD).1
 rw [show ops.size - i = (ops.size - (i + 1)) + 1 by omega, List.range'_succ, wpOpsIn_cons]
 have hrr := hr
 obtain ⟨im, μ, hi⟩ := hr
 have hw : Region.wanted o (yielded ops a.tmps) = true := by
  rcases hg with hg | ⟨j, want, g, h1, h2, h3, h4⟩
  ·exact jQ hg _
  ·have hy := nB h2 h3 h4 hi
   simp [Region.wanted, h1, hy]
 unfold wpOpIn
 simp only [lD, hw, if_true]
 have := hp.at a w hrr (bK hn lD) (wpOpsIn (fen C.rd) 0 E.P ops (lft C (AEx.thn K Q)) (List.range' (i + 1) (ops.size - (i + 1)))) (AEx.thn K Q) hQ
 exact this
theorem xr {K : ASt -> Prop} (hE : E.Good) (bt : C.Γ = E.gam) {n : Nat} (hn : C.n = n) (hdst : cz ops C.n = true) : ∀ (l : List Oper) (i : Nat) (s : LSt) (k : LSt -> Option R) (kp : TypeId -> Int -> LSt -> Option R), ops.toList.drop i = l -> i <= ops.size -> s.fits n ->
  An E n ops l s k kp = some r -> (∀ t m s', kp t m s' = some r -> s'.fits n -> Q (.panic t m) s'.toA) -> (∀ CQ : LSt, CQ.fits n -> k CQ = some r -> K CQ.toA) -> C5 E.P C ops Q i s.toA K
 | [], i, s, k, kp, hl, hi, hf, h, _, hK => by
  have : i = ops.size := by
   have := congrArg List.length hl
   grind
  subst this
  exact Kc (hK s hf h)
 | o :: l, i, s, k, kp, hl, hi, hf, h, hp, hK => by
  have bJ : i < ops.size := by
   grind [Nat.lt_or_ge, List.drop_eq_nil_of_le]
  have lD : ops[i]? = some o := by
   have : (ops.toList.drop i)[0]? = some o := by rw [hl]; rfl
   grind
  have zh : ops.toList.drop (i + 1) = l := by
   rw [← List.drop_drop, hl]; rfl
  have hdo : ∀ d, o.dst = some d -> d < n := fun d hd => hn ▸ bK hdst lD d hd
  simp only [An] at h
  rcases qs (C := C) hn hf h with ⟨s1, e1, f1, h1, hg⟩ | ⟨s1, e1, f1, h1, hg⟩
  ·rw [← e1] at hg ⊢
   rcases xq hE bt h1 with ⟨e, hk, hw⟩ | ⟨t, m, wr, hk, hw⟩
   ·refine ve bJ hdst (nI lD rfl hw hg) ?_
    rw [← oo f1 hdo]
    exact xr hE bt hn hdst l (i + 1) _ k kp zh bJ (lS f1 _ _) hk hp hK
   ·refine KH hdst lD hg hw ?_
    have := hp t m _ hk f1
    grind [LSt.toA, a8]
  ·rw [← e1] at hg ⊢
   refine ve bJ hdst (np lD hg) ?_
   have : ((⟨o.dst, .tup [], [], []⟩ : Eff).app s1.toA) = (s1.app o.dst (sH s1)).toA := (oo f1 hdo (sH s1)).symm
   rw [this]
   exact xr hE bt hn hdst l (i + 1) _ k kp zh bJ (lS f1 _ _) h1 hp hK
theorem xu (hE : E.Good) (bt : C.Γ = E.gam) {n : Nat} (hn : C.n = n) (hdst : cz ops C.n = true) {cl : List Nat} {m q : Nat} : ∀ (l : List Oper) (i : Nat) (s : LSt) (dy : List Nat) (ks : List Eff) (k : List Eff -> Option R), ops.toList.drop i = l -> s.fits n -> Ao E ops cl m q l i s dy ks k = some r ->
  ∃ uz, jh E.P C ops cl m q i s.toA dy uz /\ k ((uz.map Eff.key).reverse ++ ks) = some r
 | [], i, s, dy, ks, k, _, _, h => ⟨[], .nil, h⟩
 | o :: l, i, s, dy, ks, k, hl, hf, h => by
  have lD : ops[i]? = some o := by
   have : (ops.toList.drop i)[0]? = some o := by rw [hl]; rfl
   grind
  have zh : ops.toList.drop (i + 1) = l := by
   rw [← List.drop_drop, hl]; rfl
  have hdo : ∀ d, o.dst = some d -> d < n := fun d hd => hn ▸ bK hdst lD d hd
  simp only [Ao] at h
  cases hb : (cl.getD i 0).testBit m with
  | true =>
   rw [hb, ai] at h
   obtain ⟨uz, h1, h2⟩ := xu hE bt hn hdst l (i + 1) s _ _ k zh hf h
   exact ⟨_, .beh lD h1, by simpa [Hw, Eff.key] using h2⟩
  | false =>
   rw [hb, ax] at h
   cases hc : o.guard.isNone && (o.looksAt ops).all (fun x => !dy.any (Nat.beq x)) with
   | false => rw [hc] at h; cases h
   | true =>
    rw [hc, ai] at h
    simp only [ba, List.all_eq_true] at hc
    rcases Fg hE bt h with ⟨e, hk, hw⟩ | ⟨t, m', wr, hk, _⟩
    ·simp only at hk
     cases hq : e.rd.all (fun x => !Nat.beq x q) && e.wr.all (fun p => !Nat.beq p.1 q) with
     | false => rw [hq] at hk; cases hk
     | true =>
      rw [hq, ai] at hk
      simp only [ba, List.all_eq_true] at hq
      obtain ⟨uz, h1, h2⟩ := xu hE bt hn hdst l (i + 1) _ _ _ k zh (lS hf _ _) hk
      rw [oo hf hdo] at h1
      refine ⟨_, .free lD ?_ ?_ (nI lD rfl hw (.inl (Option.isNone_iff_eq_none.1 hc.1))) h1, by simpa using h2⟩
      ·grind [fR]
      ·rintro x (hx | hx) rfl
       ·have := hq.1 x hx
        simp_all
       ·obtain ⟨p, hp, e1⟩ := List.mem_map.1 hx
        have := hq.2 p hp
        simp_all
    ·cases hk
theorem sI {a : Nat} : ∀ (l acc : List Nat), a ∈ l \/ a ∈ acc -> a ∈ DI l acc
 | [], acc, h => h.elim (fun h => by cases h) id
 | b :: l, acc, h => by
  simp only [DI]
  cases hb : acc.any (Nat.beq b) with
  | true =>
   rw [ai]
   refine sI l acc ?_
   grind [List.any_eq_true, bj]
  | false =>
   rw [ax]
   refine sI l _ ?_
   grind
theorem Aq {o : Nat} : ∀ {l : List Nat}, o ∈ l -> Sg.get (uK l) o = some (o, .keep)
 | a :: l, h => by
  show (bif Nat.beq o a then some (a, ft.keep) else Sg.get (uK l) o) = _
  cases hb : Nat.beq o a with
  | true => rw [bj hb]; rfl
  | false =>
   rw [ax]
   refine Aq ?_
   grind [Nat.beq_refl]
theorem As {o o' : Nat} {φ : ft} : ∀ {l : List Nat}, Sg.get (uK l) o = some (o', φ) -> o ∈ l
 | [], h => by cases h
 | a :: l, h => by
  have h' : (bif Nat.beq o a then some (a, ft.keep) else Sg.get (uK l) o) = some (o', φ) := h
  cases hb : Nat.beq o a with
  | true => rw [bj hb]; exact List.mem_cons_self ..
  | false =>
   rw [hb, ax] at h'
   exact List.mem_cons_of_mem _ (As h')
theorem Qq {K : ASt -> Prop} (hE : E.Good) (bt : C.Γ = E.gam) {n : Nat} (hn : C.n = n) (hdst : cz ops C.n = true) {o : Oper} {l : List Oper} {s : LSt} {ks : List Eff} {t : TypeId} {m : Int} {wr : LHp} {kp : LSt -> Option R} (lD : ops[ks.length]? = some o) (zh : ops.toList.drop (ks.length + 1) = l) (hf : s.fits n)
  (hw : Al E C o s t m wr) (h : H2 E ops o l s ks wr kp = some r) (hp : ∀ s', kp s' = some r -> s'.fits n -> Q (.panic t m) s'.toA) : qg E.P C Q ops (ops.toList.foldl (fun acc o => acc ++ [n3 o acc]) []) ks.length ks s.toA K := by
 unfold H2 at h
 simp only at h
 generalize hL : DI ((wr ++ s.hp).map (·.1)) [] = L at h
 cases hb : o.guard.isNone && (uK L).good with
 | false => rw [hb] at h; cases h
 | true =>
  rw [hb, ai] at h
  simp only [ba] at hb
  split at h
  ·rename_i bp lj
   obtain ⟨uz, h1, h2⟩ := xu hE bt hn hdst l _ s _ _ _ zh hf h
   simp only [List.append_nil, List.reverse_reverse] at h2
   generalize CZ : ops.toList.foldl (fun acc o => acc ++ [n3 o acc]) [] = cl at h1 h2 ⊢
   cases hc : dU ops (ks.reverse ++ uC (s.nx + 1000000) L o.dst :: uz.map Eff.key) cl with
   | false => rw [hc] at h2; cases h2
   | true =>
    rw [hc, ai] at h2
    have hQ := hp _ h2 (fun x hx => by show s.fr.clr.has x = true; rw [Tr.has_clr]; exact hf x hx)
    have hmem : ∀ x, x ∈ (wr ++ s.hp).map (·.1) -> x ∈ L := fun x hx => hL ▸ sI _ _ (.inl hx)
    refine C9 lD rfl h1 hc (fun hpin s1 q7 fA a w hr K' => ?_)
    unfold wpOpIn
    simp only [lD, jQ (Option.isNone_iff_eq_none.1 hb.1), if_true]
    refine hw s1 (rL q7) (fun k hk => fA k (hmem k (by rw [List.map_append]; exact List.mem_append.2 (.inl hk)))) a w hr (bK hdst lD) K' (lft C Q) (fun a' w' C2 => ⟨.panic t m, _, rfl, hQ, ?_⟩)
    refine E7 (σ := uK L) (fun gg v hv => hE.gf gg v (by rw [← bt]; exact hv)) ((gJ hb.2 lj).of_agree ?_) (fun x => .inl (Tr.get_clr s.fr x)) ?_ a' w' C2
    ·intro x x' φ hx
     rw [a8]
     show aG s1.hp wr x = _
     rw [nG, nG, fA x (As hx)]
     rfl
    ·intro x ob hx
     obtain ⟨ct, h3⟩ := hpin x ob hx
     exact Aq (hmem x (by rw [List.map_append]; exact List.mem_append.2 (.inr (kt h3))))
  ·cases h
theorem xv {K : ASt -> Prop} (hE : E.Good) (bt : C.Γ = E.gam) {n : Nat} (hn : C.n = n) (hdst : cz ops C.n = true) : ∀ (l : List Oper) (i : Nat) (s : LSt) (ks : List Eff) (k : LSt -> Option R) (kp : TypeId -> Int -> LSt -> Option R), ops.toList.drop i = l -> i <= ops.size -> ks.length = i -> s.fits n ->
  uL E n ops l s ks k kp = some r -> (∀ t m s', kp t m s' = some r -> s'.fits n -> Q (.panic t m) s'.toA) -> (∀ CQ : LSt, CQ.fits n -> k CQ = some r -> K CQ.toA) -> qg E.P C Q ops (ops.toList.foldl (fun acc o => acc ++ [n3 o acc]) []) i ks s.toA K
 | [], i, s, ks, k, kp, hl, hi, hks, hf, h, hp, hK => by
  grind [uL, dU, n3, Hx]
 | o :: l, i, s, ks, k, kp, hl, hi, hks, hf, h, hp, hK => by
  have bJ : i < ops.size := by
   grind [Nat.lt_or_ge, List.drop_eq_nil_of_le]
  have lD : ops[i]? = some o := by
   have : (ops.toList.drop i)[0]? = some o := by rw [hl]; rfl
   grind
  have zh : ops.toList.drop (i + 1) = l := by
   rw [← List.drop_drop, hl]; rfl
  have hdo : ∀ d, o.dst = some d -> d < n := fun d hd => hn ▸ bK hdst lD d hd
  simp only [uL] at h
  rcases qs (C := C) hn hf h with ⟨s1, e1, f1, h1, hg⟩ | ⟨s1, e1, f1, h1, hg⟩
  ·rw [← e1] at hg ⊢
   rcases Fg hE bt h1 with ⟨e, hk, hw⟩ | ⟨t, m, wr, hk, hw⟩
   ·refine rK (nI lD rfl hw hg) ?_
    rw [← oo f1 hdo]
    exact xv hE bt hn hdst l (i + 1) _ _ k kp zh bJ (by simp [hks]) (lS f1 _ _) hk hp hK
   ·cases hb : Qp ops o ks with
    | false =>
     grind [Qq]
    | true =>
     rw [hb, ai] at hk
     unfold Qp at hb
     simp only [ba, List.all_eq_true, List.mem_range] at hb
     obtain ⟨⟨⟨b1, b3⟩, b2⟩, b4⟩ := hb
     rw [hks] at b3
     refine Hy lD (fun j hj CY => by
      have := b2 j CY
      rw [Bool.or_eq_true, hks] at this
      rcases this with h | h
      ·have := Nat.le_of_ble_eq_true h; omega
      ·exact h) hks (fun j hj => by have := b4 j (by omega); rwa [hks] at this) b3 ?_
     intro a w hr K'
     unfold wpOpIn
     simp only [lD, jQ (Option.isNone_iff_eq_none.1 b1), if_true]
     refine hw.at a w hr (bK hdst lD) K' Q ?_
     have := hp t m _ hk f1
     simp only [LSt.toA, a8] at this
     exact this
  ·rw [← e1] at hg ⊢
   refine rK (np lD hg) ?_
   have : ((⟨o.dst, .tup [], [], []⟩ : Eff).app s1.toA) = (s1.app o.dst (sH s1)).toA := (oo f1 hdo (sH s1)).symm
   rw [this]
   exact xv hE bt hn hdst l (i + 1) _ _ k kp zh bJ (by simp [hks]) (lS f1 _ _) h1 hp hK
end
end Go.Vm
