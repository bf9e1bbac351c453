/- Part Q of the abstract machine: the executor of code, and that it is right. -/
import Derived.Test.YtnkhoojomojbpaaGreatDoorQ18
namespace Go.Vm
variable {R : Type}
def tD (E : Env) (dst : Option Tmp) (c : Call) (s : LSt) (k : E1 -> Option R) (kp : TypeId -> Int -> LHp -> Option R) : Option R :=
 match c.callee with
 | .value x =>
  (match s.ev E x with
  | .fn (.func f) [] cap =>
   (match lk E.calls f with
   | some g => mA g (evs E s c.args.toList ++ cap) s k kp
   | none =>
    (match cap, lk E.exts f with
    | [], some g => g.run (evs E s c.args.toList) fun av => k (s.pv av)
    | _, _ => none))
  | .ref q => (match E.round with | some g => nj g q (evs E s c.args.toList) s k | none => none)
  | _ => none)
 | .builtin b =>
  (match b, c.args.toList, c.argTypes.toList with
  | .len, [x], [t] => wA E t x s k
  | .append, [x, y], [t, t2] => bif Nat.beq t t2 then kU E t t2 x y s k else (match dst with | some _ => jv E t t2 x y s k | none => none)
  | .cap, [x], [t] => wz E t x s k
  | .max, [x, y], _ => wB E x y s k
  | .min, [x, y], _ => wC E x y s k
  | _, _, _ => none)
 | .invoke _ _ => none
def op1 (E : Env) (o : Oper) (s : LSt) (k : E1 -> Option R) (kp : TypeId -> Int -> LHp -> Option R) : Option R :=
 match o.op with
 | .move x => k (s.pv (s.ev E x))
 | .assign x => k (s.pv (s.ev E x))
 | .pick c x y => qk E c x y s k
 | .alloc t => (match o.dst with | some _ => m7 E t s k | none => none)
 | .box _ x => (match o.dst with | some _ => wy E x s k | none => none)
 | .build t ps => nd E t ps s k
 | .buildSlice t n ps => (match o.dst with | some _ => wD E t n ps s k | none => none)
 | .load t x => qm E t x s k
 | .store t x y => (match o.dst with | some _ => none | none => m8 E t x y s k)
 | .nilCheck x => wF E x s k
 | .binOp b xt x y _ => wx E b xt x y s k
 | .unOp u _ x => HZ E u x s k
 | .convert st dt x => ql E st dt x s k
 | .makeInterface t x => nf E t x s k
 | .makeFunc f a b => qp E f a b s k
 | .makeSlice t x y => (match o.dst with | some _ => qo E t x y s k | none => none)
 | .slice t x lo hi mx => nc E (Qj o.pos) (XA o.pos) t x lo hi mx s k
 | .fieldAddr t x f => fZ E t x f s k
 | .field t x f => m9 E t x f s k
 | .indexAddr t x y => ga E t x y s k
 | .index t x y => na E t x y s k
 | .typeAssert x _ t ok => kV E x t ok s k
 | .extract x i => jw E x i s k
 | .call c => tD E o.dst c s k kp
 | .panic x => (match s.ev E x with | .iface t (.d (.int .i64) n) => kp t n [] | _ => none)
 | _ => none
section
variable {E : Env} {C : Ctx} {s : LSt} {k : E1 -> Option R} {kp : TypeId -> Int -> LHp -> Option R} {r : R}
theorem x5 (hE : E.Good) (bG : C.Γ = E.gam) {o : Oper} (h : op1 E o s k kp = some r) : dV E C o s k r \/ ∃ t n wr, kp t n wr = some r /\ AH E C o s t n wr := by
 obtain ⟨dst, op, ty, pos, cc, gd⟩ := o
 unfold op1 at h
 cases op with
 | move x => exact .inl (.of _ h (P6 (bN bG s x)))
 | assign x => exact .inl (.of _ h (HK (bN bG s x)))
 | pick c x y => exact .inl (H0 bG h)
 | alloc t => cases dst with
  | none => cases h
  | some d => exact .inl (DM hE.toOK h)
 | box t x => cases dst with
  | none => cases h
  | some d => exact .inl (KB bG h)
 | build t ps => exact .inl (DS hE.toOK bG h)
 | buildSlice t n ps => cases dst with
  | none => cases h
  | some d => exact .inl (KI hE.toOK bG h)
 | load t x => exact .inl (H3 bG h)
 | store t x y => cases dst with
  | none => exact .inl (DO bG h)
  | some d => cases h
 | nilCheck x => exact .inl (KK bG h)
 | binOp b xt x y yt => exact .inl (KA bG h)
 | unOp u xt x => exact .inl (Qi bG h)
 | convert st dt x => exact .inl (H2 bG h)
 | makeInterface t x => exact .inl (DT bG h)
 | makeFunc f a b => exact .inl (H8 bG h)
 | makeSlice t x y => cases dst with
  | none => cases h
  | some d => exact .inl (H7 hE.toOK bG h)
 | slice t x lo hi mx => exact .inl (DR bG h)
 | fieldAddr t x f => exact .inl (tk bG h)
 | field t x f => exact .inl (DP bG h)
 | indexAddr t x y => exact .inl (tm bG h)
 | index t x y => exact .inl (DQ hE.toOK bG h)
 | typeAssert x xt t ok => exact .inl (AD bG h)
 | extract x i => exact .inl (xY bG h)
 | panic x =>
  simp only at h
  split at h
  ·rename_i t n hx
   refine .inr ⟨t, n, [], h, fun s1 fX gm a w hr hd K Q hQ => ?_⟩
   have hrr := hr
   obtain ⟨im, μ, hi⟩ := hr
   have hv : a.eval x = .iface t (.int .i64 n) := s8 (((fX x (by simp [Op.operands])).trans ((bN bG s x).trans hx)) ▸ hi.ev x)
   refine ⟨fun f _ => n9 _ f, ?_⟩
   rw [Oper.semAt_eq _ _ _ (by intro c hc; cases hc)]
   have hrun : (execOp a.eval ⟨dst, .panic x, ty, pos, cc, gd⟩).run E.P w = .halt (.panic (.iface t (.int .i64 n))) w := by
    simp only [execOp, hv, Instr.panic]
    rfl
   rw [hrun, Oper.uponIn_panic]
   have he : (⟨s1.fr, aG s1.hp []⟩ : ASt) = s1 := by
    cases s1; congr 1
   exact hQ _ _ (he ▸ hrr)
  ·cases h
 | call c =>
  obtain ⟨callee, xs, at'⟩ := c
  simp only [tD] at h
  cases callee with
  | value x =>
   simp only at h
   split at h
   ·rename_i f cap hx
    split at h
    ·rename_i g hg
     exact KL hE bG rfl hx (hE.calls _ (fy hg)) h
    ·split at h
     ·rename_i g hg
      obtain ⟨av, hk, hrun⟩ := (hE.exts _ (fy hg)).ok _ _ _ h
      refine .inl (.of _ hk (dC [] fun w im μ hp ρ hr _ _ => ?_))
      have hxr := hr x (by simp [Op.operands, Call.operands])
      rw [bN bG, hx] at hxr
      obtain ⟨Dh, cY⟩ := hxr
      simp only [RepA, RepFs] at Dh
      obtain ⟨vs, us, hcell, rfl, rfl⟩ := Dh
      have hv : ρ x = .func (.func f) #[] #[] := by
       generalize ρ x = v at hcell cY
       cases v <;> simp_all [Value.cells, bh, AV.isAgg]
      obtain ⟨v, w', h1, h2, h3, h4, h5, h6⟩ := hrun w im μ hp (xs.toList.map ρ) (by rw [← lJ bG]; simp) (by
       intro i a v ha hv
       rw [← lJ bG] at ha
       rw [List.getElem?_map, Option.map_eq_some_iff] at ha hv
       obtain ⟨y, hy, rfl⟩ := ha
       obtain ⟨y', hy', rfl⟩ := hv
       obtain rfl : y = y' := Option.some.inj (hy.symm.trans hy')
       exact hr y (by simp only [Op.operands, Call.operands, Array.toList_append]; exact List.mem_append.2 (.inr (List.mem_of_getElem? hy))))
      refine ⟨v, w', ?_, h2, h3, h4, h5, h6⟩
      have e : xs.map ρ ++ #[] = (xs.toList.map ρ).toArray := by apply Array.ext'; simp
      simp only [execOp, resolve, hv, Deferred.ofValue, Sem.run_bind, Sem.run_pure, Result.andThen_ok, invoke, Array.empty_append]
      rw [e]; exact h1
     ·cases h
   ·rename_i q hx
    split at h
    ·rename_i g hg
     exact .inl (DV hE bG rfl hx (hE.round _ hg) h)
    ·cases h
   ·cases h
  | builtin b =>
   simp only at h
   split at h
   ·rename_i x t h1 h2
    have e1 : xs = #[x] := by apply Array.ext'; simpa using h1
    have e2 : at' = #[t] := by apply Array.ext'; simpa using h2
    subst e1 e2
    exact .inl (KF bG h)
   ·rename_i x y t t2 h1 h2
    have e1 : xs = #[x, y] := by apply Array.ext'; simpa using h1
    have e2 : at' = #[t, t2] := by apply Array.ext'; simpa using h2
    subst e1 e2
    cases htt : Nat.beq t t2 with
    | true => rw [htt] at h; exact .inl (AA hE.toOK bG h)
    | false =>
     rw [htt] at h
     simp only [ax] at h
     cases dst with
     | none => cases h
     | some d => exact .inl (xV hE.toOK bG h)
   ·rename_i x t h1 h2
    have e1 : xs = #[x] := by apply Array.ext'; simpa using h1
    have e2 : at' = #[t] := by apply Array.ext'; simpa using h2
    subst e1 e2
    exact .inl (KE bG h)
   ·rename_i x y h1
    have e1 : xs = #[x, y] := by apply Array.ext'; simpa using h1
    subst e1
    exact .inl (KG bG h)
   ·rename_i x y h1
    have e1 : xs = #[x, y] := by apply Array.ext'; simpa using h1
    subst e1
    exact .inl (KH bG h)
   ·cases h
  | invoke a b => cases h
 | _ => cases h
end
def LSt.set (s : LSt) (x : Nat) (a : AV) : LSt := ⟨s.fr.set x a, s.hp, s.nx⟩
def qs (ops : Array Oper) (j : Nat) : Option Nat := match ops[j]? with | some oj => oj.dst | none => none
theorem tE {ops : Array Oper} {j g : Nat} (h : qs ops j = some g) : (ops[j]?).bind (·.dst) = some g := by
 unfold qs at h
 cases ho : ops[j]? with
 | none => rw [ho] at h; cases h
 | some oj => rw [ho] at h; exact h
def oq (n : Nat) (ops : Array Oper) (o : Oper) (s : LSt) (on off : LSt -> Option R) : Option R :=
 match o.guard with
 | none => on s
 | some (j, want) =>
  (match qs ops j with
  | some g =>
   bif Nat.blt g n then
    (match s.fr.get g with
    | .d .bool b => bif b then (bif want then on (s.set g (.d .bool true)) else off (s.set g (.d .bool true))) else (bif want then off (s.set g (.d .bool false)) else on (s.set g (.d .bool false)))
    | .tup [] => off s
    | _ => none)
   else none
  | none => none)
def tF (s : LSt) : E1 := ⟨.tup [], [], [], s.nx⟩
def AJ (E : Env) (n : Nat) (ops : Array Oper) : List Oper -> LSt -> (LSt -> Option R) -> (TypeId -> Int -> LSt -> Option R) -> Option R
 | [], s, k, _ => k s
 | o :: l, s, k, kp =>
  oq n ops o s (fun s1 => op1 E o s1 (fun e => AJ E n ops l (s1.app o.dst e) k kp) (fun t m wr => kp t m ⟨s1.fr, wr ++ s1.hp, s1.nx⟩))
   (fun s1 => AJ E n ops l (s1.app o.dst (tF s1)) k kp)
def DW (E : Env) (o : Oper) (s : LSt) (k : E1 -> Option R) (kp : TypeId -> Int -> LHp -> Option R) : Option R :=
 match o.op with
 | .call ⟨.value x, xs, _⟩ =>
  (match s.ev E x with
  | .fn (.func f) [] cap =>
   (match lk E.calls f with
   | some g => mA g (evs E s xs.toList ++ cap) s (fun e => k (KM s.hp e)) kp
   | none => op1 E o s k kp)
  | _ => op1 E o s k kp)
 | _ => op1 E o s k kp
theorem Fm {E : Env} {C : Ctx} {s : LSt} {k : E1 -> Option R} {kp : TypeId -> Int -> LHp -> Option R} {r : R} (hE : E.Good) (bG : C.Γ = E.gam) {o : Oper} (h : DW E o s k kp = some r) : dV E C o s k r \/ ∃ t n wr, kp t n wr = some r /\ AH E C o s t n wr := by
 unfold DW at h
 split at h
 ·rename_i x xs ts ho
  split at h
  ·rename_i f cap hx
   split at h
   ·rename_i g hg
    exact Ia hE bG ho hx (hE.calls _ (fy hg)) h
   ·exact x5 hE bG h
  ·exact x5 hE bG h
 ·exact x5 hE bG h
def Ql (ops : Array Oper) (o : Oper) (ks : List Eff) : Bool :=
 o.guard.isNone && ek ops (ks.reverse ++ Eff.bad o.dst :: ((ops.toList.drop (ks.length + 1)).map (·.dst)).map Eff.bad2) (ops.toList.foldl (fun acc o => acc ++ [oT o acc]) []) &&
 ((List.range ops.size).all fun j => Nat.ble j ks.length || ((ops.toList.foldl (fun acc o => acc ++ [oT o acc]) []).getD j 0).testBit ks.length) &&
 (List.range ks.length).all fun j => ((ops.toList.foldl (fun acc o => acc ++ [oT o acc]) []).getD ks.length 0).testBit j
def AK (E : Env) (ops : Array Oper) (cl : List Nat) (m q : Nat) : List Oper -> Nat -> LSt -> List Nat -> List Eff -> (List Eff -> Option R) -> Option R
 | [], _, _, _, ks, k => k ks
 | o :: l, i, s, dy, ks, k =>
  bif (cl.getD i 0).testBit m then AK E ops cl m q l (i + 1) s (zV o.dst ++ dy) (Dk q o.dst :: ks) k
  else bif o.guard.isNone && (o.looksAt ops).all (fun x => !dy.any (Nat.beq x)) then
   DW E o s (fun e => bif e.rd.all (fun x => !Nat.beq x q) && e.wr.all (fun p => !Nat.beq p.1 q) then AK E ops cl m q l (i + 1) (s.app o.dst e) dy ((e.eff o.dst).key :: ks) k else none) (fun _ _ _ => none)
  else none
def DX : List Nat -> List Nat -> List Nat
 | [], acc => acc
 | a :: l, acc => bif acc.any (Nat.beq a) then DX l acc else DX l (a :: acc)
def vA (l : List Nat) : Sg := l.map fun o => (o, o, .keep)
def Ib (E : Env) (ops : Array Oper) (o : Oper) (l : List Oper) (s : LSt) (ks : List Eff) (wr : LHp) (kp : LSt -> Option R) : Option R :=
 let hp := wr ++ s.hp
 let L := DX (hp.map (·.1)) []
 let cl := ops.toList.foldl (fun acc o => acc ++ [oT o acc]) []
 let q := s.nx + 1000000
 bif o.guard.isNone && (vA L).good then
  (match j8 hp (vA L) (vA L) with
  | some bq => AK E ops cl ks.length q l (ks.length + 1) s (zV o.dst) [] fun ks2 =>
   bif ek ops (ks.reverse ++ vt q L o.dst :: ks2.reverse) cl then kp ⟨s.fr.clr, bq, s.nx⟩ else none
  | none => none)
 else none
def vB (E : Env) (n : Nat) (ops : Array Oper) : List Oper -> LSt -> List Eff -> (LSt -> Option R) -> (TypeId -> Int -> LSt -> Option R) -> Option R
 | [], s, ks, k, _ => bif ek ops ks.reverse (ops.toList.foldl (fun acc o => acc ++ [oT o acc]) []) then k s else none
 | o :: l, s, ks, k, kp =>
  oq n ops o s (fun s1 => DW E o s1 (fun e => vB E n ops l (s1.app o.dst e) ((e.eff o.dst).key :: ks) k kp) (fun t m wr => bif Ql ops o ks then kp t m ⟨s1.fr, wr ++ s1.hp, s1.nx⟩ else Ib E ops o l s1 ks wr (kp t m)))
   (fun s1 => vB E n ops l (s1.app o.dst (tF s1)) (((tF s1).eff o.dst).key :: ks) k kp)
def LSt.fits (s : LSt) (n : Nat) : Prop := ∀ x, x < n -> s.fr.has x = true
theorem o6 {s : LSt} {n : Nat} (hf : s.fits n) {dst : Option Nat} (hd : ∀ d, dst = some d -> d < n) (e : E1) : (s.app dst e).toA = (e.eff dst).app s.toA := by
 unfold LSt.app LSt.toA Eff.app E1.eff
 simp only
 congr 1
 ·cases dst with
  | none => rfl
  | some d =>
   funext x
   simp only [ASt.put, l7]
   rw [Tr.get_set _ _ _ _ (hf d (hd d rfl))]
 ·exact bj _ _
theorem mC {s : LSt} {n : Nat} (hf : s.fits n) (dst : Option Nat) (e : E1) : (s.app dst e).fits n := by
 intro x hx
 unfold LSt.app
 cases dst with
 | none => exact hf x hx
 | some d => simp only [Tr.has_set]; exact hf x hx
theorem gD {s : LSt} {n : Nat} (hf : s.fits n) (x : Nat) (a : AV) : (s.set x a).fits n := by
 intro y hy
 simp only [LSt.set, Tr.has_set]; exact hf y hy
theorem o7 {s : LSt} {n x : Nat} {a : AV} (hf : s.fits n) (hx : x < n) (ha : s.fr.get x = a) : (s.set x a).toA = s.toA := by
 unfold LSt.set LSt.toA
 simp only
 congr 1
 funext y
 rw [Tr.get_set _ _ _ _ (hf x hx)]
 cases hb : Nat.beq y x with
 | true => rw [bo hb, ha]; rfl
 | false => rfl
section
variable {E : Env} {C : Ctx} {r : R} {Q : AEx -> ASt -> Prop} {ops : Array Oper}
theorem q7 {n : Nat} {o : Oper} {s : LSt} {on off : LSt -> Option R} (hn : C.n = n) (hf : s.fits n) (h : oq n ops o s on off = some r) :
  (∃ s1 : LSt, s1.toA = s.toA /\ s1.fits n /\ on s1 = some r /\ (o.guard = none \/ ∃ j want g, o.guard = some (j, want) /\ (ops[j]?).bind (·.dst) = some g /\ g < C.n /\ s.toA.fr g = .d .bool want)) \/
  (∃ s1 : LSt, s1.toA = s.toA /\ s1.fits n /\ off s1 = some r /\ ∃ j want g, o.guard = some (j, want) /\ (ops[j]?).bind (·.dst) = some g /\ g < C.n /\ (s.toA.fr g = .d .bool (!want) \/ s.toA.fr g = .tup [])) := by
 unfold oq at h
 split at h
 ·rename_i hg
  exact .inl ⟨s, rfl, hf, h, .inl hg⟩
 ·rename_i j want hg
  split at h
  ·rename_i g hgs
   cases cn : Nat.blt g n with
   | false => rw [cn] at h; cases h
   | true =>
    rw [cn] at h
    have JX : g < n := Nat.le_of_ble_eq_true cn
    have hgs' := tE hgs
    simp only [ak] at h
    split at h
    ·rename_i b hb
     cases b with
     | true =>
      cases want with
      | true => exact .inl ⟨_, o7 hf JX hb, gD hf _ _, h, .inr ⟨j, true, g, hg, hgs', (by rw [hn]; exact JX), hb⟩⟩
      | false => exact .inr ⟨_, o7 hf JX hb, gD hf _ _, h, j, false, g, hg, hgs', (by rw [hn]; exact JX), .inl hb⟩
     | false =>
      cases want with
      | true => exact .inr ⟨_, o7 hf JX hb, gD hf _ _, h, j, true, g, hg, hgs', (by rw [hn]; exact JX), .inl hb⟩
      | false => exact .inl ⟨_, o7 hf JX hb, gD hf _ _, h, .inr ⟨j, false, g, hg, hgs', (by rw [hn]; exact JX), hb⟩⟩
    ·rename_i hb
     exact .inr ⟨s, rfl, hf, h, j, want, g, hg, hgs', (by rw [hn]; exact JX), .inr hb⟩
    ·cases h
  ·cases h
theorem ou {i : Nat} {o : Oper} {e : Eff} {s : ASt} (ho : ops[i]? = some o) (hd : e.dst = o.dst) (h : OpW E.P C o e s)
  (hg : o.guard = none \/ ∃ j want g, o.guard = some (j, want) /\ (ops[j]?).bind (·.dst) = some g /\ g < C.n /\ s.fr g = .d .bool want) : jA E.P C ops i s e := by
 rcases hg with hg | ⟨j, want, g, h1, h2, h3, h4⟩
 ·exact Dt ho hg hd h
 ·exact P5 ho h1 h2 h3 h4 hd h
theorem nV {i : Nat} {o : Oper} {s : ASt} (ho : ops[i]? = some o)
  (hg : ∃ j want g, o.guard = some (j, want) /\ (ops[j]?).bind (·.dst) = some g /\ g < C.n /\ (s.fr g = .d .bool (!want) \/ s.fr g = .tup [])) : jA E.P C ops i s ⟨o.dst, .tup [], [], []⟩ := by
 obtain ⟨j, want, g, h1, h2, h3, h4 | h4⟩ := hg
 ·exact Km ho h1 h2 h3 h4
 ·exact HJ ho h1 h2 h3 h4
theorem KN {K : ASt -> Prop} {i : Nat} {o : Oper} {s : LSt} {t : TypeId} {n : Int} {wr : LHp} (hn : cT ops C.n = true) (l9 : ops[i]? = some o)
  (hg : o.guard = none \/ ∃ j want g, o.guard = some (j, want) /\ (ops[j]?).bind (·.dst) = some g /\ g < C.n /\ s.toA.fr g = .d .bool want)
  (hp : AH E C o s t n wr) (hQ : Q (.panic t n) ⟨s.fr.get, aG (az s.hp) wr⟩) : Dj E.P C ops Q i s.toA K := by
 intro a w hr
 have fq : i < ops.size := (Array.getElem?_eq_some_iff.1 l9).1
 rw [show ops.size - i = (ops.size - (i + 1)) + 1 by omega, List.range'_succ, wpOpsIn_cons]
 have hrr := hr
 obtain ⟨im, μ, hi⟩ := hr
 have hw : Region.wanted o (yielded ops a.tmps) = true := by
  rcases hg with hg | ⟨j, want, g, h1, h2, h3, h4⟩
  ·exact kf hg _
  ·have hy := oa h2 h3 h4 hi
   simp [Region.wanted, h1, hy]
 unfold wpOpIn
 simp only [l9, hw, if_true]
 have := hp.at a w hrr (bU hn l9) (wpOpsIn (fen C.rd) 0 E.P ops (lft C (AEx.thn K Q)) (List.range' (i + 1) (ops.size - (i + 1)))) (AEx.thn K Q) hQ
 exact this
theorem x6 {K : ASt -> Prop} (hE : E.Good) (bG : C.Γ = E.gam) {n : Nat} (hn : C.n = n) (hdst : cT ops C.n = true) : ∀ (l : List Oper) (i : Nat) (s : LSt) (k : LSt -> Option R) (kp : TypeId -> Int -> LSt -> Option R), ops.toList.drop i = l -> i <= ops.size -> s.fits n ->
  AJ E n ops l s k kp = some r -> (∀ t m s', kp t m s' = some r -> s'.fits n -> Q (.panic t m) s'.toA) -> (∀ C6 : LSt, C6.fits n -> k C6 = some r -> K C6.toA) -> Dj E.P C ops Q i s.toA K
 | [], i, s, k, kp, hl, hi, hf, h, _, hK => by
  have : i = ops.size := by
   have := congrArg List.length hl
   simp at this; omega
  subst this
  exact Ki (hK s hf h)
 | o :: l, i, s, k, kp, hl, hi, hf, h, hp, hK => by
  have cn : i < ops.size := by
   rcases Nat.lt_or_ge i ops.size with h | h
   ·exact h
   ·rw [List.drop_eq_nil_of_le (by simpa using h)] at hl; cases hl
  have l9 : ops[i]? = some o := by
   have : (ops.toList.drop i)[0]? = some o := by rw [hl]; rfl
   rw [List.getElem?_drop] at this
   simpa using this
  have vp : ops.toList.drop (i + 1) = l := by
   rw [← List.drop_drop, hl]; rfl
  have hdo : ∀ d, o.dst = some d -> d < n := fun d hd => hn ▸ bU hdst l9 d hd
  simp only [AJ] at h
  rcases q7 (C := C) hn hf h with ⟨s1, e1, f1, h1, hg⟩ | ⟨s1, e1, f1, h1, hg⟩
  ·rw [← e1] at hg ⊢
   rcases x5 hE bG h1 with ⟨e, hk, hw⟩ | ⟨t, m, wr, hk, hw⟩
   ·refine vT cn hdst (ou l9 rfl hw hg) ?_
    rw [← o6 f1 hdo]
    exact x6 hE bG hn hdst l (i + 1) _ k kp vp cn (mC f1 _ _) hk hp hK
   ·refine KN hdst l9 hg hw ?_
    have := hp t m _ hk f1
    simp only [LSt.toA, bj] at this
    exact this
  ·rw [← e1] at hg ⊢
   refine vT cn hdst (nV l9 hg) ?_
   have : ((⟨o.dst, .tup [], [], []⟩ : Eff).app s1.toA) = (s1.app o.dst (tF s1)).toA := (o6 f1 hdo (tF s1)).symm
   rw [this]
   exact x6 hE bG hn hdst l (i + 1) _ k kp vp cn (mC f1 _ _) h1 hp hK
theorem x7 (hE : E.Good) (bG : C.Γ = E.gam) {n : Nat} (hn : C.n = n) (hdst : cT ops C.n = true) {cl : List Nat} {m q : Nat} : ∀ (l : List Oper) (i : Nat) (s : LSt) (dy : List Nat) (ks : List Eff) (k : List Eff -> Option R), ops.toList.drop i = l -> s.fits n -> AK E ops cl m q l i s dy ks k = some r ->
  ∃ vo, jB E.P C ops cl m q i s.toA dy vo /\ k ((vo.map Eff.key).reverse ++ ks) = some r
 | [], i, s, dy, ks, k, _, _, h => ⟨[], .nil, h⟩
 | o :: l, i, s, dy, ks, k, hl, hf, h => by
  have l9 : ops[i]? = some o := by
   have : (ops.toList.drop i)[0]? = some o := by rw [hl]; rfl
   rw [List.getElem?_drop] at this
   simpa using this
  have vp : ops.toList.drop (i + 1) = l := by
   rw [← List.drop_drop, hl]; rfl
  have hdo : ∀ d, o.dst = some d -> d < n := fun d hd => hn ▸ bU hdst l9 d hd
  simp only [AK] at h
  cases hb : (cl.getD i 0).testBit m with
  | true =>
   rw [hb, ak] at h
   obtain ⟨vo, h1, h2⟩ := x7 hE bG hn hdst l (i + 1) s _ _ k vp hf h
   exact ⟨_, .beh l9 h1, by simpa [Dk, Eff.key] using h2⟩
  | false =>
   rw [hb, ax] at h
   cases hc : o.guard.isNone && (o.looksAt ops).all (fun x => !dy.any (Nat.beq x)) with
   | false => rw [hc] at h; cases h
   | true =>
    rw [hc, ak] at h
    simp only [bg, List.all_eq_true] at hc
    rcases Fm hE bG h with ⟨e, hk, hw⟩ | ⟨t, m', wr, hk, _⟩
    ·simp only at hk
     cases hq : e.rd.all (fun x => !Nat.beq x q) && e.wr.all (fun p => !Nat.beq p.1 q) with
     | false => rw [hq] at hk; cases hk
     | true =>
      rw [hq, ak] at hk
      simp only [bg, List.all_eq_true] at hq
      obtain ⟨vo, h1, h2⟩ := x7 hE bG hn hdst l (i + 1) _ _ _ k vp (mC hf _ _) hk
      rw [o6 hf hdo] at h1
      refine ⟨_, .free l9 ?_ ?_ (ou l9 rfl hw (.inl (Option.isNone_iff_eq_none.1 hc.1))) h1, by simpa using h2⟩
      ·intro x hx hm
       have := hc.2 x hx
       rw [gz hm] at this
       cases this
      ·rintro x (hx | hx) rfl
       ·have := hq.1 x hx
        rw [Nat.beq_refl] at this; cases this
       ·obtain ⟨p, hp, e1⟩ := List.mem_map.1 hx
        have := hq.2 p hp
        rw [e1, Nat.beq_refl] at this; cases this
    ·cases hk
theorem tG {a : Nat} : ∀ (l acc : List Nat), a ∈ l \/ a ∈ acc -> a ∈ DX l acc
 | [], acc, h => h.elim (fun h => by cases h) id
 | b :: l, acc, h => by
  simp only [DX]
  cases hb : acc.any (Nat.beq b) with
  | true =>
   rw [ak]
   refine tG l acc ?_
   rcases h with h | h
   ·rcases List.mem_cons.1 h with rfl | h
    ·obtain ⟨c, hc, e⟩ := List.any_eq_true.1 hb
     rw [bo e]; exact .inr hc
    ·exact .inl h
   ·exact .inr h
  | false =>
   rw [ax]
   refine tG l _ ?_
   rcases h with h | h
   ·rcases List.mem_cons.1 h with rfl | h
    ·exact .inr (List.mem_cons_self ..)
    ·exact .inl h
   ·exact .inr (List.mem_cons_of_mem _ h)
theorem AL {o : Nat} : ∀ {l : List Nat}, o ∈ l -> Sg.get (vA l) o = some (o, .keep)
 | a :: l, h => by
  show (bif Nat.beq o a then some (a, fI.keep) else Sg.get (vA l) o) = _
  cases hb : Nat.beq o a with
  | true => rw [bo hb]; rfl
  | false =>
   rw [ax]
   refine AL ?_
   rcases List.mem_cons.1 h with rfl | h
   ·rw [Nat.beq_refl] at hb; cases hb
   ·exact h
theorem AM {o o' : Nat} {φ : fI} : ∀ {l : List Nat}, Sg.get (vA l) o = some (o', φ) -> o ∈ l
 | [], h => by cases h
 | a :: l, h => by
  have h' : (bif Nat.beq o a then some (a, fI.keep) else Sg.get (vA l) o) = some (o', φ) := h
  cases hb : Nat.beq o a with
  | true => rw [bo hb]; exact List.mem_cons_self ..
  | false =>
   rw [hb, ax] at h'
   exact List.mem_cons_of_mem _ (AM h')
theorem Qm {K : ASt -> Prop} (hE : E.Good) (bG : C.Γ = E.gam) {n : Nat} (hn : C.n = n) (hdst : cT ops C.n = true) {o : Oper} {l : List Oper} {s : LSt} {ks : List Eff} {t : TypeId} {m : Int} {wr : LHp} {kp : LSt -> Option R} (l9 : ops[ks.length]? = some o) (vp : ops.toList.drop (ks.length + 1) = l) (hf : s.fits n)
  (hw : AH E C o s t m wr) (h : Ib E ops o l s ks wr kp = some r) (hp : ∀ s', kp s' = some r -> s'.fits n -> Q (.panic t m) s'.toA) : qP E.P C Q ops (ops.toList.foldl (fun acc o => acc ++ [oT o acc]) []) ks.length ks s.toA K := by
 unfold Ib at h
 simp only at h
 generalize hL : DX ((wr ++ s.hp).map (·.1)) [] = L at h
 cases hb : o.guard.isNone && (vA L).good with
 | false => rw [hb] at h; cases h
 | true =>
  rw [hb, ak] at h
  simp only [bg] at hb
  split at h
  ·rename_i bq j7
   obtain ⟨vo, h1, h2⟩ := x7 hE bG hn hdst l _ s _ _ _ vp hf h
   simp only [List.append_nil, List.reverse_reverse] at h2
   generalize Ka : ops.toList.foldl (fun acc o => acc ++ [oT o acc]) [] = cl at h1 h2 ⊢
   cases hc : ek ops (ks.reverse ++ vt (s.nx + 1000000) L o.dst :: vo.map Eff.key) cl with
   | false => rw [hc] at h2; cases h2
   | true =>
    rw [hc, ak] at h2
    have hQ := hp _ h2 (fun x hx => by show s.fr.clr.has x = true; rw [Tr.has_clr]; exact hf x hx)
    have hmem : ∀ x, x ∈ (wr ++ s.hp).map (·.1) -> x ∈ L := fun x hx => hL ▸ tG _ _ (.inl hx)
    refine Ds l9 rfl h1 hc (fun hpin s1 rR gm a w hr K' => ?_)
    unfold wpOpIn
    simp only [l9, kf (Option.isNone_iff_eq_none.1 hb.1), if_true]
    refine hw s1 (sF rR) (fun k hk => gm k (hmem k (by rw [List.map_append]; exact List.mem_append.2 (.inl hk)))) a w hr (bU hdst l9) K' (lft C Q) (fun a' w' Dh => ⟨.panic t m, _, rfl, hQ, ?_⟩)
    refine Fh (σ := vA L) (fun gg v hv => hE.gf gg v (by rw [← bG]; exact hv)) ((ia hb.2 j7).of_agree ?_) (fun x => .inl (Tr.get_clr s.fr x)) ?_ a' w' Dh
    ·intro x x' φ hx
     rw [bj]
     show aG s1.hp wr x = _
     rw [lK, lK, gm x (AM hx)]
     rfl
    ·intro x ob hx
     obtain ⟨cx, h3⟩ := hpin x ob hx
     exact AL (hmem x (by rw [List.map_append]; exact List.mem_append.2 (.inr (kW h3))))
  ·cases h
theorem x8 {K : ASt -> Prop} (hE : E.Good) (bG : C.Γ = E.gam) {n : Nat} (hn : C.n = n) (hdst : cT ops C.n = true) : ∀ (l : List Oper) (i : Nat) (s : LSt) (ks : List Eff) (k : LSt -> Option R) (kp : TypeId -> Int -> LSt -> Option R), ops.toList.drop i = l -> i <= ops.size -> ks.length = i -> s.fits n ->
  vB E n ops l s ks k kp = some r -> (∀ t m s', kp t m s' = some r -> s'.fits n -> Q (.panic t m) s'.toA) -> (∀ C6 : LSt, C6.fits n -> k C6 = some r -> K C6.toA) -> qP E.P C Q ops (ops.toList.foldl (fun acc o => acc ++ [oT o acc]) []) i ks s.toA K
 | [], i, s, ks, k, kp, hl, hi, J9, hf, h, hp, hK => by
  simp only [vB] at h
  cases hc : ek ops ks.reverse (ops.toList.foldl (fun acc o => acc ++ [oT o acc]) []) with
  | false => rw [hc] at h; cases h
  | true =>
   rw [hc] at h
   exact HG ks rfl hc (hK s hf h)
 | o :: l, i, s, ks, k, kp, hl, hi, J9, hf, h, hp, hK => by
  have cn : i < ops.size := by
   rcases Nat.lt_or_ge i ops.size with h | h
   ·exact h
   ·rw [List.drop_eq_nil_of_le (by simpa using h)] at hl; cases hl
  have l9 : ops[i]? = some o := by
   have : (ops.toList.drop i)[0]? = some o := by rw [hl]; rfl
   rw [List.getElem?_drop] at this
   simpa using this
  have vp : ops.toList.drop (i + 1) = l := by
   rw [← List.drop_drop, hl]; rfl
  have hdo : ∀ d, o.dst = some d -> d < n := fun d hd => hn ▸ bU hdst l9 d hd
  simp only [vB] at h
  rcases q7 (C := C) hn hf h with ⟨s1, e1, f1, h1, hg⟩ | ⟨s1, e1, f1, h1, hg⟩
  ·rw [← e1] at hg ⊢
   rcases Fm hE bG h1 with ⟨e, hk, hw⟩ | ⟨t, m, wr, hk, hw⟩
   ·refine sE (ou l9 rfl hw hg) ?_
    rw [← o6 f1 hdo]
    exact x8 hE bG hn hdst l (i + 1) _ _ k kp vp cn (by simp [J9]) (mC f1 _ _) hk hp hK
   ·cases hb : Ql ops o ks with
    | false =>
     rw [hb, ax] at hk
     subst J9
     exact Qm hE bG hn hdst l9 vp f1 hw hk (fun s' h' oS => hp t m s' h' oS)
    | true =>
     rw [hb, ak] at hk
     unfold Ql at hb
     simp only [bg, List.all_eq_true, List.mem_range] at hb
     obtain ⟨⟨⟨b1, b3⟩, b2⟩, b4⟩ := hb
     rw [J9] at b3
     refine HH l9 (fun j hj De => by
      have := b2 j De
      rw [Bool.or_eq_true, J9] at this
      rcases this with h | h
      ·have := Nat.le_of_ble_eq_true h; omega
      ·exact h) J9 (fun j hj => by have := b4 j (by omega); rwa [J9] at this) b3 ?_
     intro a w hr K'
     unfold wpOpIn
     simp only [l9, kf (Option.isNone_iff_eq_none.1 b1), if_true]
     refine hw.at a w hr (bU hdst l9) K' Q ?_
     have := hp t m _ hk f1
     simp only [LSt.toA, bj] at this
     exact this
  ·rw [← e1] at hg ⊢
   refine sE (nV l9 hg) ?_
   have : ((⟨o.dst, .tup [], [], []⟩ : Eff).app s1.toA) = (s1.app o.dst (tF s1)).toA := (o6 f1 hdo (tF s1)).symm
   rw [this]
   exact x8 hE bG hn hdst l (i + 1) _ _ k kp vp cn (by simp [J9]) (mC f1 _ _) h1 hp hK
end
end Go.Vm
