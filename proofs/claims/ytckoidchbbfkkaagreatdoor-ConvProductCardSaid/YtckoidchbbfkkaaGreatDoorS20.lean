/- Part Q of the abstract machine: the executor of code, and that it is right. -/
import Derived.Test.YtckoidchbbfkkaaGreatDoorS19
namespace Go.Vm

variable {R : Type}

def opCall (E : Env) (dst : Option Tmp) (c : Call) (s : LSt) (k : E1 → Option R) (kp : TypeId → Int → LHp → Option R) : Option R :=
  match c.callee with
  | .value x =>
    (match s.ev E x with
    | .fn (.func f) [] cap =>
      (match lk E.calls f with
      | some g => callE g (evs E s c.args.toList ++ cap) s k kp
      | none =>
        (match cap, lk E.exts f with
        | [], some g => g.run (evs E s c.args.toList) fun av => k (s.pv av)
        | _, _ => none))
    | .ref q => (match E.round with | some g => opYield g q (evs E s c.args.toList) s k | none => none)
    | _ => none)
  | .builtin b =>
    (match b, c.args.toList, c.argTypes.toList with
    | .len, [x], [t] => opLen E t x s k
    | .append, [x, y], [t, t2] => bif Nat.beq t t2 then opAppend E t t2 x y s k else (match dst with | some _ => opAppendZ E t t2 x y s k | none => none)
    | .cap, [x], [t] => opCap E t x s k
    | .max, [x, y], _ => opMax E x y s k
    | .min, [x, y], _ => opMin E x y s k
    | .copy, [x, y], [t, _] => opCopy E t x y s k
    | _, _, _ => none)
  | .invoke _ _ => none

def op1 (E : Env) (o : Oper) (s : LSt) (k : E1 → Option R) (kp : TypeId → Int → LHp → Option R) : Option R :=
  match o.op with
  | .move x => k (s.pv (s.ev E x))
  | .assign x => k (s.pv (s.ev E x))
  | .pick c x y => opPick E c x y s k
  | .alloc t => (match o.dst with | some _ => opAlloc E t s k | none => none)
  | .box _ x => (match o.dst with | some _ => opBox E x s k | none => none)
  | .build t ps => opBuild E t ps s k
  | .buildSlice t n ps => (match o.dst with | some _ => opLit E t n ps s k | none => none)
  | .load t x => opLoad E t x s k
  | .store t x y => (match o.dst with | some _ => none | none => opStore E t x y s k)
  | .nilCheck x => opNil E x s k
  | .binOp b xt x y _ => opBin E b xt x y s k
  | .unOp u _ x => opUn E u x s k
  | .convert st dt x => opConv E st dt x s k
  | .makeInterface t x => opIface E t x s k
  | .makeFunc f a b => opFunc E f a b s k
  | .makeSlice t x y => (match o.dst with | some _ => opMake E t x y s k | none => none)
  | .slice t x lo hi mx => opSlice E (truncAt o.pos) (keepAt o.pos) t x lo hi mx s k
  | .fieldAddr t x f => opFieldAddr E t x f s k
  | .field t x f => opField E t x f s k
  | .indexAddr t x y => opIndexAddr E t x y s k
  | .index t x y => opIndex E t x y s k
  | .typeAssert x _ t ok => opAssert E x t ok s k
  | .extract x i => opExtract E x i s k
  | .call c => opCall E o.dst c s k kp
  | .makeMap _ r => (match o.dst, r with | some _, none => opMakeMap s k | _, _ => none)
  | .insert t x y z => (match o.dst with | none => opMapSet E t x y z s k | some _ => none)
  | .mapUpdate t x y z => (match o.dst with | none => opMapSet E t x y z s k | some _ => none)
  | .lookup t x y b => bif b then opLookup E t x y s k else none
  | .panic x => (match s.ev E x with | .iface t (.d (.int .i64) n) => kp t n [] | _ => none)
  | _ => none

section
variable {E : Env} {C : Ctx} {s : LSt} {k : E1 → Option R} {kp : TypeId → Int → LHp → Option R} {r : R}

theorem op1_ok (hE : E.Good) (hΓ : C.Γ = E.gam) {o : Oper} (h : op1 E o s k kp = some r) : Does E C o s k r ∨ ∃ t n wr, kp t n wr = some r ∧ PanW E C o s t n wr := by
  obtain ⟨dst, op, ty, pos, aft, gd⟩ := o
  unfold op1 at h
  cases op with
  | move x => exact .inl (.of _ h (ok_move (ev_eq hΓ s x)))
  | assign x => exact .inl (.of _ h (ok_assign (ev_eq hΓ s x)))
  | pick c x y => exact .inl (opPick_ok hΓ h)
  | alloc t => cases dst with
    | none => cases h
    | some d => exact .inl (opAlloc_ok hE.toOK h)
  | box t x => cases dst with
    | none => cases h
    | some d => exact .inl (opBox_ok hΓ h)
  | build t ps => exact .inl (opBuild_ok hE.toOK hΓ h)
  | buildSlice t n ps => cases dst with
    | none => cases h
    | some d => exact .inl (opLit_ok hE.toOK hΓ h)
  | load t x => exact .inl (opLoad_ok hΓ h)
  | store t x y => cases dst with
    | none => exact .inl (opStore_ok hΓ h)
    | some d => cases h
  | nilCheck x => exact .inl (opNil_ok hΓ h)
  | binOp b xt x y yt => exact .inl (opBin_ok hΓ h)
  | unOp u xt x => exact .inl (opUn_ok hΓ h)
  | convert st dt x => exact .inl (opConv_ok hΓ h)
  | makeInterface t x => exact .inl (opIface_ok hΓ h)
  | makeFunc f a b => exact .inl (opFunc_ok hΓ h)
  | makeSlice t x y => cases dst with
    | none => cases h
    | some d => exact .inl (opMake_ok hE.toOK hΓ h)
  | slice t x lo hi mx => exact .inl (opSlice_ok hΓ h)
  | fieldAddr t x f => exact .inl (opFieldAddr_ok hΓ h)
  | field t x f => exact .inl (opField_ok hΓ h)
  | indexAddr t x y => exact .inl (opIndexAddr_ok hΓ h)
  | index t x y => exact .inl (opIndex_ok hE.toOK hΓ h)
  | typeAssert x xt t ok => exact .inl (opAssert_ok hΓ h)
  | extract x i => exact .inl (opExtract_ok hΓ h)
  | makeMap t r =>
    cases dst with
    | none => cases h
    | some d =>
      cases r with
      | none => exact .inl (opMakeMap_ok h)
      | some y => cases h
  | insert t x y z => cases dst with
    | none => exact .inl (opMapSet_ok (ins := true) hΓ h)
    | some d => cases h
  | mapUpdate t x y z => cases dst with
    | none => exact .inl (opMapSet_ok (ins := false) hΓ h)
    | some d => cases h
  | lookup t x y b => cases b with
    | true => exact .inl (opLookup_ok hΓ h)
    | false => cases h
  | panic x =>
    simp only at h
    split at h
    · rename_i t n hx
      refine .inr ⟨t, n, [], h, fun a w hr hd K Q hQ => ?_⟩
      have hrr := hr
      obtain ⟨im, μ, hi⟩ := hr
      have hv : a.eval x = .iface t (.int .i64 n) := iface_eq ((ev_eq hΓ s x).trans hx ▸ hi.ev x)
      refine ⟨fun f _ => fen_fn _ f, ?_⟩
      rw [Oper.semAt_eq _ _ _ (by intro c hc; cases hc)]
      have hrun : (execOp a.eval ⟨dst, .panic x, ty, pos, aft, gd⟩).run E.P w = .halt (.panic (.iface t (.int .i64 n))) w := by
        simp only [execOp, hv, Instr.panic]
        rfl
      rw [hrun, Oper.uponIn_panic]
      have he : (⟨s.fr.get, hpSet (hget s.hp) []⟩ : ASt) = s.toA := by
        unfold LSt.toA; congr 1
      rw [he] at hQ
      exact ⟨.panic t n, s.toA, rfl, hQ, hrr⟩
    · cases h
  | call c =>
    obtain ⟨callee, xs, at'⟩ := c
    simp only [opCall] at h
    cases callee with
    | value x =>
      simp only at h
      split at h
      · rename_i f cap hx
        split at h
        · rename_i g hg
          exact callE_ok hE hΓ rfl hx (hE.calls _ (lk_mem hg)) h
        · split at h
          · rename_i g hg
            obtain ⟨av, hk, hrun⟩ := (hE.exts _ (lk_mem hg)).ok _ _ _ h
            refine .inl (.of _ hk (ok_read [] fun w im μ hp ρ hr _ _ => ?_))
            have hxr := hr x (by simp [Op.operands, Call.operands])
            rw [ev_eq hΓ, hx] at hxr
            obtain ⟨hr1, hag⟩ := hxr
            simp only [RepA, RepFs] at hr1
            obtain ⟨vs, us, hcell, rfl, rfl⟩ := hr1
            have hv : ρ x = .func (.func f) #[] #[] := by
              generalize ρ x = v at hcell hag
              cases v <;> simp_all [Value.cells, vIsAgg, AV.isAgg]
            obtain ⟨v, w', h1, h2, h3, h4, h5, h6⟩ := hrun w im μ hp (xs.toList.map ρ) (by rw [← evs_map hΓ]; simp) (by
              intro i a v ha hv
              rw [← evs_map hΓ] at ha
              rw [List.getElem?_map, Option.map_eq_some_iff] at ha hv
              obtain ⟨y, hy, rfl⟩ := ha
              obtain ⟨y', hy', rfl⟩ := hv
              obtain rfl : y = y' := Option.some.inj (hy.symm.trans hy')
              exact hr y (by simp only [Op.operands, Call.operands, Array.toList_append]; exact List.mem_append.2 (.inr (List.mem_of_getElem? hy))))
            refine ⟨v, w', ?_, h2, h3, h4, h5, h6⟩
            have e : xs.map ρ ++ #[] = (xs.toList.map ρ).toArray := by apply Array.ext'; simp
            simp only [execOp, resolve, hv, Deferred.ofValue, Sem.run_bind, Sem.run_pure, Result.andThen_ok, invoke, Array.empty_append]
            rw [e]; exact h1
          · cases h
      · rename_i q hx
        split at h
        · rename_i g hg
          exact .inl (opYield_ok hE hΓ rfl hx (hE.round _ hg) h)
        · cases h
      · cases h
    | builtin b =>
      simp only at h
      split at h
      · rename_i x t h1 h2
        have e1 : xs = #[x] := by apply Array.ext'; simpa using h1
        have e2 : at' = #[t] := by apply Array.ext'; simpa using h2
        subst e1 e2
        exact .inl (opLen_ok hΓ h)
      · rename_i x y t t2 h1 h2
        have e1 : xs = #[x, y] := by apply Array.ext'; simpa using h1
        have e2 : at' = #[t, t2] := by apply Array.ext'; simpa using h2
        subst e1 e2
        cases htt : Nat.beq t t2 with
        | true => rw [htt] at h; exact .inl (opAppend_ok hE.toOK hΓ h)
        | false =>
          rw [htt] at h
          simp only [cond_false] at h
          cases dst with
          | none => cases h
          | some d => exact .inl (opAppendZ_ok hE.toOK hΓ h)
      · rename_i x t h1 h2
        have e1 : xs = #[x] := by apply Array.ext'; simpa using h1
        have e2 : at' = #[t] := by apply Array.ext'; simpa using h2
        subst e1 e2
        exact .inl (opCap_ok hΓ h)
      · rename_i x y h1
        have e1 : xs = #[x, y] := by apply Array.ext'; simpa using h1
        subst e1
        exact .inl (opMax_ok hΓ h)
      · rename_i x y h1
        have e1 : xs = #[x, y] := by apply Array.ext'; simpa using h1
        subst e1
        exact .inl (opMin_ok hΓ h)
      · rename_i x y t t2 h1 h2
        have e1 : xs = #[x, y] := by apply Array.ext'; simpa using h1
        have e2 : at' = #[t, t2] := by apply Array.ext'; simpa using h2
        subst e1 e2
        exact .inl (opCopy_ok hΓ h)
      · cases h
    | invoke a b => cases h
  | _ => cases h
end

/-! ### regions -/

def LSt.set (s : LSt) (x : Nat) (a : AV) : LSt := ⟨s.fr.set x a, s.hp, s.nx⟩

def guardSlot (ops : Array Oper) (j : Nat) : Option Nat := match ops[j]? with | some oj => oj.dst | none => none
theorem guardSlot_spec {ops : Array Oper} {j g : Nat} (h : guardSlot ops j = some g) : (ops[j]?).bind (·.dst) = some g := by
  unfold guardSlot at h
  cases ho : ops[j]? with
  | none => rw [ho] at h; cases h
  | some oj => rw [ho] at h; exact h

/-- is an operation wanted? (where it is told, the yes or no is written down) -/
def guardN (n : Nat) (ops : Array Oper) (o : Oper) (s : LSt) (on off : LSt → Option R) : Option R :=
  match o.guard with
  | none => on s
  | some (j, want) =>
    (match guardSlot ops j with
    | some g =>
      bif Nat.blt g n then
        (match s.fr.get g with
        | .d .bool b => bif b then (bif want then on (s.set g (.d .bool true)) else off (s.set g (.d .bool true))) else (bif want then off (s.set g (.d .bool false)) else on (s.set g (.d .bool false)))
        | .tup [] => off s
        | _ => none)
      else none
    | none => none)
def skipE (s : LSt) : E1 := ⟨.tup [], [], [], s.nx⟩

def regN (E : Env) (n : Nat) (ops : Array Oper) : List Oper → LSt → (LSt → Option R) → (TypeId → Int → LSt → Option R) → Option R
  | [], s, k, _ => k s
  | o :: l, s, k, kp =>
    guardN n ops o s (fun s1 => op1 E o s1 (fun e => regN E n ops l (s1.app o.dst e) k kp) (fun t m wr => kp t m ⟨s1.fr, wr ++ s1.hp, s1.nx⟩))
      (fun s1 => regN E n ops l (s1.app o.dst (skipE s1)) k kp)

/-- an operation of a drawing region -/
def op1D (E : Env) (o : Oper) (s : LSt) (k : E1 → Option R) (kp : TypeId → Int → LHp → Option R) : Option R :=
  match o.op with
  | .call ⟨.value x, xs, _⟩ =>
    (match s.ev E x with
    | .fn (.func f) [] cap =>
      (match lk E.calls f with
      | some g => callE g (evs E s xs.toList ++ cap) s (fun e => k (dropFz s.hp e)) kp
      | none => op1 E o s k kp)
    | _ => op1 E o s k kp)
  | _ => op1 E o s k kp
theorem op1D_ok {E : Env} {C : Ctx} {s : LSt} {k : E1 → Option R} {kp : TypeId → Int → LHp → Option R} {r : R} (hE : E.Good) (hΓ : C.Γ = E.gam) {o : Oper} (h : op1D E o s k kp = some r) : Does E C o s k r ∨ ∃ t n wr, kp t n wr = some r ∧ PanW E C o s t n wr := by
  unfold op1D at h
  split at h
  · rename_i x xs ts ho
    split at h
    · rename_i f cap hx
      split at h
      · rename_i g hg
        exact callE_okF hE hΓ ho hx (hE.calls _ (lk_mem hg)) h
      · exact op1_ok hE hΓ h
    · exact op1_ok hE hΓ h
  · exact op1_ok hE hΓ h

/-- an operation panics: what is listed ahead of it stands ahead of it, what is listed behind it behind it, in every order -/
def panD (ops : Array Oper) (o : Oper) (ks : List Eff) : Bool :=
  o.guard.isNone && checkD ops (ks.reverse ++ Eff.bad o.dst :: ((ops.toList.drop (ks.length + 1)).map (·.dst)).map Eff.bad2) (ops.toList.foldl (fun acc o => acc ++ [orOf o acc]) []) &&
  ((List.range ops.size).all fun j => Nat.ble j ks.length || ((ops.toList.foldl (fun acc o => acc ++ [orOf o acc]) []).getD j 0).testBit ks.length) &&
  (List.range ks.length).all fun j => ((ops.toList.foldl (fun acc o => acc ++ [orOf o acc]) []).getD ks.length 0).testBit j
def regD (E : Env) (n : Nat) (ops : Array Oper) : List Oper → LSt → List Eff → (LSt → Option R) → (TypeId → Int → LSt → Option R) → Option R
  | [], s, ks, k, _ => bif checkD ops ks.reverse (ops.toList.foldl (fun acc o => acc ++ [orOf o acc]) []) then k s else none
  | o :: l, s, ks, k, kp =>
    guardN n ops o s (fun s1 => op1D E o s1 (fun e => regD E n ops l (s1.app o.dst e) ((e.eff o.dst).key :: ks) k kp) (fun t m wr => bif panD ops o ks then kp t m ⟨s1.fr, wr ++ s1.hp, s1.nx⟩ else none))
      (fun s1 => regD E n ops l (s1.app o.dst (skipE s1)) (((skipE s1).eff o.dst).key :: ks) k kp)

def LSt.fits (s : LSt) (n : Nat) : Prop := ∀ x, x < n → s.fr.has x = true

theorem app_toA {s : LSt} {n : Nat} (hf : s.fits n) {dst : Option Nat} (hd : ∀ d, dst = some d → d < n) (e : E1) : (s.app dst e).toA = (e.eff dst).app s.toA := by
  unfold LSt.app LSt.toA Eff.app E1.eff
  simp only
  congr 1
  · cases dst with
    | none => rfl
    | some d =>
      funext x
      simp only [ASt.put, putF]
      rw [Tr.get_set _ _ _ _ (hf d (hd d rfl))]
  · exact hget_append _ _

theorem app_fits {s : LSt} {n : Nat} (hf : s.fits n) (dst : Option Nat) (e : E1) : (s.app dst e).fits n := by
  intro x hx
  unfold LSt.app
  cases dst with
  | none => exact hf x hx
  | some d => simp only [Tr.has_set]; exact hf x hx

theorem set_fits {s : LSt} {n : Nat} (hf : s.fits n) (x : Nat) (a : AV) : (s.set x a).fits n := by
  intro y hy
  simp only [LSt.set, Tr.has_set]; exact hf y hy

theorem set_toA {s : LSt} {n x : Nat} {a : AV} (hf : s.fits n) (hx : x < n) (ha : s.fr.get x = a) : (s.set x a).toA = s.toA := by
  unfold LSt.set LSt.toA
  simp only
  congr 1
  funext y
  rw [Tr.get_set _ _ _ _ (hf x hx)]
  cases hb : Nat.beq y x with
  | true => rw [Nat.eq_of_beq_eq_true hb, ha]; rfl
  | false => rfl

section
variable {E : Env} {C : Ctx} {r : R} {Q : AEx → ASt → Prop} {ops : Array Oper}

/-- what a guard comes to -/
theorem guardN_some {n : Nat} {o : Oper} {s : LSt} {on off : LSt → Option R} (hn : C.n = n) (hf : s.fits n) (h : guardN n ops o s on off = some r) :
    (∃ s1 : LSt, s1.toA = s.toA ∧ s1.fits n ∧ on s1 = some r ∧ (o.guard = none ∨ ∃ j want g, o.guard = some (j, want) ∧ (ops[j]?).bind (·.dst) = some g ∧ g < C.n ∧ s.toA.fr g = .d .bool want)) ∨
    (∃ s1 : LSt, s1.toA = s.toA ∧ s1.fits n ∧ off s1 = some r ∧ ∃ j want g, o.guard = some (j, want) ∧ (ops[j]?).bind (·.dst) = some g ∧ g < C.n ∧ (s.toA.fr g = .d .bool (!want) ∨ s.toA.fr g = .tup [])) := by
  unfold guardN at h
  split at h
  · rename_i hg
    exact .inl ⟨s, rfl, hf, h, .inl hg⟩
  · rename_i j want hg
    split at h
    · rename_i g hgs
      cases hlt : Nat.blt g n with
      | false => rw [hlt] at h; cases h
      | true =>
        rw [hlt] at h
        have hgn : g < n := Nat.le_of_ble_eq_true hlt
        have hgs' := guardSlot_spec hgs
        simp only [cond_true] at h
        split at h
        · rename_i b hb
          cases b with
          | true =>
            cases want with
            | true => exact .inl ⟨_, set_toA hf hgn hb, set_fits hf _ _, h, .inr ⟨j, true, g, hg, hgs', (by rw [hn]; exact hgn), hb⟩⟩
            | false => exact .inr ⟨_, set_toA hf hgn hb, set_fits hf _ _, h, j, false, g, hg, hgs', (by rw [hn]; exact hgn), .inl hb⟩
          | false =>
            cases want with
            | true => exact .inr ⟨_, set_toA hf hgn hb, set_fits hf _ _, h, j, true, g, hg, hgs', (by rw [hn]; exact hgn), .inl hb⟩
            | false => exact .inl ⟨_, set_toA hf hgn hb, set_fits hf _ _, h, .inr ⟨j, false, g, hg, hgs', (by rw [hn]; exact hgn), hb⟩⟩
        · rename_i hb
          exact .inr ⟨s, rfl, hf, h, j, want, g, hg, hgs', (by rw [hn]; exact hgn), .inr hb⟩
        · cases h
    · cases h

theorem step_guard {i : Nat} {o : Oper} {e : Eff} {s : ASt} (ho : ops[i]? = some o) (hd : e.dst = o.dst) (h : OpW E.P C o e s)
    (hg : o.guard = none ∨ ∃ j want g, o.guard = some (j, want) ∧ (ops[j]?).bind (·.dst) = some g ∧ g < C.n ∧ s.fr g = .d .bool want) : StepOK E.P C ops i s e := by
  rcases hg with hg | ⟨j, want, g, h1, h2, h3, h4⟩
  · exact step_plain ho hg hd h
  · exact step_on ho h1 h2 h3 h4 hd h
theorem step_unwanted {i : Nat} {o : Oper} {s : ASt} (ho : ops[i]? = some o)
    (hg : ∃ j want g, o.guard = some (j, want) ∧ (ops[j]?).bind (·.dst) = some g ∧ g < C.n ∧ (s.fr g = .d .bool (!want) ∨ s.fr g = .tup [])) : StepOK E.P C ops i s ⟨o.dst, .tup [], [], []⟩ := by
  obtain ⟨j, want, g, h1, h2, h3, h4 | h4⟩ := hg
  · exact step_off ho h1 h2 h3 h4
  · exact step_skip ho h1 h2 h3 h4

/-- a panic in a region -/
theorem runN_pan {K : ASt → Prop} {i : Nat} {o : Oper} {s : LSt} {t : TypeId} {n : Int} {wr : LHp} (hn : dstsBelow ops C.n = true) (hoi : ops[i]? = some o)
    (hg : o.guard = none ∨ ∃ j want g, o.guard = some (j, want) ∧ (ops[j]?).bind (·.dst) = some g ∧ g < C.n ∧ s.toA.fr g = .d .bool want)
    (hp : PanW E C o s t n wr) (hQ : Q (.panic t n) ⟨s.fr.get, hpSet (hget s.hp) wr⟩) : RunN E.P C ops Q i s.toA K := by
  intro a w hr
  have hi' : i < ops.size := (Array.getElem?_eq_some_iff.1 hoi).1
  rw [show ops.size - i = (ops.size - (i + 1)) + 1 by omega, List.range'_succ, wpOpsIn_cons]
  have hrr := hr
  obtain ⟨im, μ, hi⟩ := hr
  have hw : Region.wanted o (yielded ops a.tmps) = true := by
    rcases hg with hg | ⟨j, want, g, h1, h2, h3, h4⟩
    · exact wanted_none hg _
    · have hy := yielded_of h2 h3 h4 hi
      simp [Region.wanted, h1, hy]
  unfold wpOpIn
  simp only [hoi, hw, if_true]
  have := hp a w hrr (dstsBelow_spec hn hoi) (wpOpsIn (fen C.rd) 0 E.P ops (lft C (AEx.thn K Q)) (List.range' (i + 1) (ops.size - (i + 1)))) (AEx.thn K Q) hQ
  exact this

theorem regN_ok {K : ASt → Prop} (hE : E.Good) (hΓ : C.Γ = E.gam) {n : Nat} (hn : C.n = n) (hdst : dstsBelow ops C.n = true) : ∀ (l : List Oper) (i : Nat) (s : LSt) (k : LSt → Option R) (kp : TypeId → Int → LSt → Option R), ops.toList.drop i = l → i ≤ ops.size → s.fits n →
    regN E n ops l s k kp = some r → (∀ t m s', kp t m s' = some r → s'.fits n → Q (.panic t m) s'.toA) → (∀ st' : LSt, st'.fits n → k st' = some r → K st'.toA) → RunN E.P C ops Q i s.toA K
  | [], i, s, k, kp, hl, hi, hf, h, _, hK => by
    have : i = ops.size := by
      have := congrArg List.length hl
      simp at this; omega
    subst this
    exact runN_end (hK s hf h)
  | o :: l, i, s, k, kp, hl, hi, hf, h, hp, hK => by
    have hlt : i < ops.size := by
      rcases Nat.lt_or_ge i ops.size with h | h
      · exact h
      · rw [List.drop_eq_nil_of_le (by simpa using h)] at hl; cases hl
    have hoi : ops[i]? = some o := by
      have : (ops.toList.drop i)[0]? = some o := by rw [hl]; rfl
      rw [List.getElem?_drop] at this
      simpa using this
    have hl' : ops.toList.drop (i + 1) = l := by
      rw [← List.drop_drop, hl]; rfl
    have hdo : ∀ d, o.dst = some d → d < n := fun d hd => hn ▸ dstsBelow_spec hdst hoi d hd
    simp only [regN] at h
    rcases guardN_some (C := C) hn hf h with ⟨s1, e1, f1, h1, hg⟩ | ⟨s1, e1, f1, h1, hg⟩
    · rw [← e1] at hg ⊢
      rcases op1_ok hE hΓ h1 with ⟨e, hk, hw⟩ | ⟨t, m, wr, hk, hw⟩
      · refine runN_step hlt hdst (step_guard hoi rfl hw hg) ?_
        rw [← app_toA f1 hdo]
        exact regN_ok hE hΓ hn hdst l (i + 1) _ k kp hl' hlt (app_fits f1 _ _) hk hp hK
      · refine runN_pan hdst hoi hg hw ?_
        have := hp t m _ hk f1
        simp only [LSt.toA, hget_append] at this
        exact this
    · rw [← e1] at hg ⊢
      refine runN_step hlt hdst (step_unwanted hoi hg) ?_
      have : ((⟨o.dst, .tup [], [], []⟩ : Eff).app s1.toA) = (s1.app o.dst (skipE s1)).toA := (app_toA f1 hdo (skipE s1)).symm
      rw [this]
      exact regN_ok hE hΓ hn hdst l (i + 1) _ k kp hl' hlt (app_fits f1 _ _) h1 hp hK

theorem regD_ok {K : ASt → Prop} (hE : E.Good) (hΓ : C.Γ = E.gam) {n : Nat} (hn : C.n = n) (hdst : dstsBelow ops C.n = true) : ∀ (l : List Oper) (i : Nat) (s : LSt) (ks : List Eff) (k : LSt → Option R) (kp : TypeId → Int → LSt → Option R), ops.toList.drop i = l → i ≤ ops.size → ks.length = i → s.fits n →
    regD E n ops l s ks k kp = some r → (∀ t m s', kp t m s' = some r → s'.fits n → Q (.panic t m) s'.toA) → (∀ st' : LSt, st'.fits n → k st' = some r → K st'.toA) → RunKP E.P C Q ops (ops.toList.foldl (fun acc o => acc ++ [orOf o acc]) []) i ks s.toA K
  | [], i, s, ks, k, kp, hl, hi, hks, hf, h, hp, hK => by
    simp only [regD] at h
    cases hc : checkD ops ks.reverse (ops.toList.foldl (fun acc o => acc ++ [orOf o acc]) []) with
    | false => rw [hc] at h; cases h
    | true =>
      rw [hc] at h
      exact runKP_end ks rfl hc (hK s hf h)
  | o :: l, i, s, ks, k, kp, hl, hi, hks, hf, h, hp, hK => by
    have hlt : i < ops.size := by
      rcases Nat.lt_or_ge i ops.size with h | h
      · exact h
      · rw [List.drop_eq_nil_of_le (by simpa using h)] at hl; cases hl
    have hoi : ops[i]? = some o := by
      have : (ops.toList.drop i)[0]? = some o := by rw [hl]; rfl
      rw [List.getElem?_drop] at this
      simpa using this
    have hl' : ops.toList.drop (i + 1) = l := by
      rw [← List.drop_drop, hl]; rfl
    have hdo : ∀ d, o.dst = some d → d < n := fun d hd => hn ▸ dstsBelow_spec hdst hoi d hd
    simp only [regD] at h
    rcases guardN_some (C := C) hn hf h with ⟨s1, e1, f1, h1, hg⟩ | ⟨s1, e1, f1, h1, hg⟩
    · rw [← e1] at hg ⊢
      rcases op1D_ok hE hΓ h1 with ⟨e, hk, hw⟩ | ⟨t, m, wr, hk, hw⟩
      · refine runKP_step (step_guard hoi rfl hw hg) ?_
        rw [← app_toA f1 hdo]
        exact regD_ok hE hΓ hn hdst l (i + 1) _ _ k kp hl' hlt (by simp [hks]) (app_fits f1 _ _) hk hp hK
      · cases hb : panD ops o ks with
        | false => rw [hb] at hk; cases hk
        | true =>
          rw [hb, cond_true] at hk
          unfold panD at hb
          simp only [Bool.and_eq_true, List.all_eq_true, List.mem_range] at hb
          obtain ⟨⟨⟨b1, b3⟩, b2⟩, b4⟩ := hb
          rw [hks] at b3
          refine runKP_pan hoi (fun j hj hjs => by
            have := b2 j hjs
            rw [Bool.or_eq_true, hks] at this
            rcases this with h | h
            · have := Nat.le_of_ble_eq_true h; omega
            · exact h) hks (fun j hj => by have := b4 j (by omega); rwa [hks] at this) b3 ?_
          intro a w hr K'
          unfold wpOpIn
          simp only [hoi, wanted_none (Option.isNone_iff_eq_none.1 b1), if_true]
          refine hw a w hr (dstsBelow_spec hdst hoi) K' Q ?_
          have := hp t m _ hk f1
          simp only [LSt.toA, hget_append] at this
          exact this
    · rw [← e1] at hg ⊢
      refine runKP_step (step_unwanted hoi hg) ?_
      have : ((⟨o.dst, .tup [], [], []⟩ : Eff).app s1.toA) = (s1.app o.dst (skipE s1)).toA := (app_toA f1 hdo (skipE s1)).symm
      rw [this]
      exact regD_ok hE hΓ hn hdst l (i + 1) _ _ k kp hl' hlt (by simp [hks]) (app_fits f1 _ _) h1 hp hK

end
end Go.Vm
