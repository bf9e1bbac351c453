/- Part B of the abstract machine: abstract values, objects, states; how they stand for the model's frames and worlds (Inv). -/
import Derived.Test.YtnkhoojomojbpaaGreatDoorK1
namespace Go.Vm
inductive AV where
 | undef
 | d (t : Ty) (x : t.den)
 | ip (t : Ty) (x : t.den)
 | op (o : Nat) (p : List Nat) (off : Nat)
 | os (o : Nat) (n : Nat)
 | oe (o : Nat) (n : Nat) (i : Nat)
 | ow (o : Nat) (n : Nat) (i : Nat) (l : Nat)
 | nils
 | emp
 | pr (a b : AV)
 | tup (l : List AV)
 | fn (f : Fn) (first cap : List AV)
 | nilfn
 | iface (t : TypeId) (v : AV)
 | nilif
 | nilp
 | ref (o : Nat)
inductive Jmp where
 | ret
 | exit (id : Nat)
def Jmp.code : Jmp -> Code
 | .ret => .ret
 | .exit id => .exit id
inductive j3 where
 | ready
 | busy
 | done (j : Jmp)
 | over
structure vd where
 key : Nat
 ps : Array Tmp
 assign : Code
 body : Code
 n : Nat
inductive dx where
 | map (l : List (List UInt8 × AV))
 | loop (lc : vd) (fr : List (Nat × AV)) (st : j3)
def dx.isMap : dx -> Bool
 | .map _ => true
 | _ => false
def dx.val (r : dx) (b : Nat) : Value := bif r.isMap then .map (some b) else .func (.yield b) #[] #[]
inductive aj where
 | box (v : AV)
 | arr (T : TypeId) (e : Ty) (v : Nat) (fz : Bool) (xs : List e.den)
 | rc (r : dx)
inductive Pl where
 | none
 | at (b : Nat)
 | row (b cap : Nat)
 | nil (a : Option Addr)
 | fz (b cap : Nat)
def Pl.blk : Pl -> Option Nat
 | .at b => some b
 | .row b _ => some b
 | _ => Option.none
def AV.isAgg : AV -> Bool
 | .d t _ => t.isAgg
 | .pr _ _ => true
 | _ => false
def aY : Value -> Bool
 | .agg _ => true
 | _ => false
abbrev Hp := Nat -> Option aj
abbrev Mu := Nat -> Pl
def cn : Pl -> Nat -> Value -> Prop
 | .nil a, _, v => v = .slice a 0 0
 | .row b cap, n, v => v = .slice (some ⟨b, 0, none⟩) n cap
 | .fz b cap, n, v => v = .slice (some ⟨b, 0, none⟩) n cap
 | _, _, _ => False
mutual
def RepA (w : World) (im : Nat -> Prop) (μ : Mu) (hp : Hp) : AV -> List Value -> Prop
  | .undef, _ => False
  | .d t x, cs => aM w im t cs x
  | .ip t x, cs => ∃ b off, cs = [.pointer (some ⟨b, off, none⟩)] /\ im b /\ ∃ ds, bX w b off ds /\ aM w im t ds x
  | .op o _ off, cs => ∃ b v, μ o = .at b /\ hp o = some (.box v) /\ cs = [.pointer (some ⟨b, off, none⟩)]
  | .os o n, cs => ∃ T e m z xs, hp o = some (.arr T e m z xs) /\ n <= m /\ ∃ v, cs = [v] /\ v.oneCell' = true /\ (n = m -> cn (μ o) xs.length v)
  | .oe o n i, cs => ∃ T e m z xs, hp o = some (.arr T e m z xs) /\ n <= m /\ ∃ v, cs = [v] /\ v.oneCell' = true /\ (n = m -> ∃ b cap, (μ o = .row b cap \/ μ o = .fz b cap) /\ v = .pointer (some ⟨b, i * e.size, none⟩))
  | .ow o n i l, cs => ∃ T e m z xs, hp o = some (.arr T e m z xs) /\ n <= m /\ ∃ v, cs = [v] /\ v.oneCell' = true /\ (n = m -> ∃ b cap, (μ o = .row b cap \/ μ o = .fz b cap) /\ v = .slice (some ⟨b, i * e.size, none⟩) l (cap - i))
  | .nils, cs => cs = [.slice none 0 0]
  | .emp, cs => ∃ a, cs = [.slice a 0 0]
  | .pr a b, cs => ∃ c1 c2, cs = c1 ++ c2 /\ RepA w im μ hp a c1 /\ RepA w im μ hp b c2
  | .tup _, _ => False
  | .fn f first cap, cs => ∃ vs us : List Value, cs = [.func f vs.toArray us.toArray] /\ RepFs w im μ hp first vs /\ RepFs w im μ hp cap us
  | .nilfn, cs => cs = [.nilFunc]
  | .iface t v, cs => ∃ u, cs = [.iface t u] /\ RepA w im μ hp v u.cells.toList /\ aY u = v.isAgg
  | .nilif, cs => cs = [.nilIface]
  | .nilp, cs => cs = [.pointer none]
  | .ref o, cs => ∃ b r, μ o = .at b /\ hp o = some (.rc r) /\ cs = [r.val b]
def RepFs (w : World) (im : Nat -> Prop) (μ : Mu) (hp : Hp) : List AV -> List Value -> Prop
  | [], vs => vs = []
  | a :: l, vs => ∃ v us, vs = v :: us /\ RepA w im μ hp a v.cells.toList /\ aY v = a.isAgg /\ RepFs w im μ hp l us
end
def bo (w : World) (im : Nat -> Prop) (μ : Mu) (hp : Hp) (a : AV) (v : Value) : Prop :=
 match a with
 | .undef => True
 | .tup l => ∃ vs : List Value, v = .tuple vs.toArray /\ RepFs w im μ hp l vs
 | a => RepA w im μ hp a v.cells.toList /\ aY v = a.isAgg
def j3.ok (r : Loop) : j3 -> Prop
 | .ready => r.state = .ready /\ r.pending = none
 | .busy => r.state = .busy
 | .done j => r.state = .done /\ r.pending = some j.code
 | .over => True
def ln (w : World) (im : Nat -> Prop) (μ : Mu) (hp : Hp) : List (ak × AV) -> List MapEntry -> Prop
 | [], es => es = []
 | (k, a) :: l, es => ∃ e EW, es = e :: EW /\ e.key = .string ⟨k.toArray⟩ /\ RepA w im μ hp a e.val.cells.toList /\ aY e.val = a.isAgg /\ ln w im μ hp l EW
def wS (w : World) (im : Nat -> Prop) (μ : Mu) (hp : Hp) : dx -> Obj -> Prop
 | .map l, x => ∃ es clock, x = .map es clock /\ ln w im μ hp l es.toList
 | .loop lc fr st, x => ∃ r : Loop, x = .loop r /\ r.params = lc.ps /\ r.assign = lc.assign /\ r.body = lc.body /\ r.tmps.size = lc.n /\ (∀ p ∈ fr, bo w im μ hp p.2 (r.tmps.getD p.1 Go.undef)) /\ st.ok r
def il (w : World) (im : Nat -> Prop) (μ : Mu) (hp : Hp) (pl : Pl) : aj -> Prop
 | .box v => ∃ b cells T, pl = .at b /\ w.heap[b]? = some (.cells cells T (0, 0)) /\ RepA w im μ hp v cells.toList
 | .arr T e _ z xs => (∃ a, pl = .nil a /\ xs = []) \/ (z = false /\ ∃ b cap cells, pl = .row b cap /\ w.heap[b]? = some (.cells cells T (0, 0)) /\ xs.length <= cap /\ cap <= maxLen /\ cells.size = cap * e.size /\
   aR (aM w im e) (cells.toList.take (xs.length * e.size)) xs) \/
   (z = true /\ ∃ b cap cs, pl = .fz b cap /\ im b /\ xs.length <= cap /\ cap <= maxLen /\ bX w b 0 cs /\ aR (aM w im e) cs xs)
 | .rc r => ∃ b x, pl = .at b /\ w.heap[b]? = some x /\ wS w im μ hp r x
def cA : aj -> Pl -> aj -> Pl -> Prop
 | .box _, p, .box _, p' => p' = p
 | .rc r, p, .rc r', p' => p' = p /\ r'.isMap = r.isMap
 | .arr T e m _ xs, p, ct, p' => ∃ (m' : Nat) (z' : Bool) (ys : List e.den), ct = .arr T e m' z' ys /\ ((m' = m /\ ys.length = xs.length /\ (p' = p \/ ∃ b cap, p = .row b cap /\ p' = .fz b cap)) \/ m < m')
 | _, _, _, _ => False
structure Ev (w : World) (im : Nat -> Prop) (μ : Mu) (hp : Hp) (w' : World) (bI : Nat -> Prop) (bh : Mu) (bp : Hp) : Prop where
 fim : ∀ b, im b -> bI b
 fheap : ∀ b, im b -> w'.heap[b]? = w.heap[b]?
 fob : ∀ o ob, hp o = some ob -> ∃ ct, bp o = some ct /\ cA ob (μ o) ct (bh o)
theorem cA.refl (ob : aj) (p : Pl) : cA ob p ob p := by
 cases ob with
 | box v => exact rfl
 | rc r => exact ⟨rfl, rfl⟩
 | arr T e m z xs => exact ⟨m, z, xs, rfl, .inl ⟨rfl, rfl, .inl rfl⟩⟩
theorem cA.trans {a b c : aj} {p q r : Pl} (h : cA a p b q) (h' : cA b q c r) : cA a p c r := by
 cases a with
 | box v =>
  cases b with
  | arr _ _ _ _ _ => exact h.elim
  | rc _ => exact h.elim
  | box u =>
   cases c with
   | arr _ _ _ _ _ => exact h'.elim
   | rc _ => exact h'.elim
   | box x =>
    have h1 : q = p := h
    have h2 : r = q := h'
    show r = p
    rw [h2, h1]
 | rc v =>
  cases b with
  | arr _ _ _ _ _ => exact h.elim
  | box _ => exact h.elim
  | rc u =>
   cases c with
   | arr _ _ _ _ _ => exact h'.elim
   | box _ => exact h'.elim
   | rc x =>
    obtain ⟨h1, h2⟩ := h
    obtain ⟨h3, h4⟩ := h'
    exact ⟨h3.trans h1, h4.trans h2⟩
 | arr T e m z xs =>
  obtain ⟨m1, z1, ys, rfl, h⟩ := h
  obtain ⟨m2, z2, zs, rfl, h'⟩ := h'
  refine ⟨m2, z2, zs, rfl, ?_⟩
  grind
section
variable {w w' : World} {im bI : Nat -> Prop} {μ bh : Mu} {hp bp : Hp}
mutual
theorem RepA.ev (h : Ev w im μ hp w' bI bh bp) : ∀ (a : AV) (cs : List Value), RepA w im μ hp a cs -> RepA w' bI bh bp a cs
  | .undef, _, hr => by simp only [RepA] at hr
  | .d t x, cs, hr => by simp only [RepA] at hr ⊢; exact hr.mono h.fim h.fheap
  | .ip t x, cs, hr => by
    simp only [RepA] at hr ⊢
    obtain ⟨b, off, e, hb, ds, hc, hd⟩ := hr
    exact ⟨b, off, e, h.fim _ hb, ds, hc.mono (h.fheap _ hb), hd.mono h.fim h.fheap⟩
  | .op o p off, cs, hr => by
    simp only [RepA] at hr ⊢
    obtain ⟨b, v, hm, ho, e⟩ := hr
    obtain ⟨ct, dS, fO⟩ := h.fob o _ ho
    cases ct with
    | box v' => exact ⟨b, v', by rw [show bh o = μ o from fO]; exact hm, dS, e⟩
    | arr _ _ _ _ _ => exact fO.elim
    | rc _ => exact fO.elim
  | .os o n, cs, hr => by
    simp only [RepA] at hr ⊢
    obtain ⟨T, e, m, z, xs, ho, hn, v, hv, h1, hp⟩ := hr
    obtain ⟨ct, dS, m', z', ys, rfl, fO⟩ := h.fob o _ ho
    refine ⟨T, e, m', z', ys, dS, ?_, v, hv, h1, fun hy => ?_⟩
    · rcases fO with ⟨hl, _⟩ | hl <;> omega
    · rcases fO with ⟨hl, j1, eg | ⟨b, cap, h2, h3⟩⟩ | hl
      · rw [eg, j1]; exact hp (by omega)
      · have := hp (by omega)
        rw [h2] at this
        rw [h3, j1]; exact this
      · omega
  | .oe o n i, cs, hr => by
    simp only [RepA] at hr ⊢
    obtain ⟨T, e, m, z, xs, ho, hn, v, hv, h1, hp⟩ := hr
    obtain ⟨ct, dS, m', z', ys, rfl, fO⟩ := h.fob o _ ho
    refine ⟨T, e, m', z', ys, dS, ?_, v, hv, h1, fun hy => ?_⟩
    · rcases fO with ⟨hl, _⟩ | hl <;> omega
    · rcases fO with ⟨hl, j1, eg | ⟨b, cap, h2, h3⟩⟩ | hl
      · rw [eg]; exact hp (by omega)
      · obtain ⟨b', cap', h4, h5⟩ := hp (by omega)
        rw [h2] at h4
        obtain ⟨rfl, rfl⟩ : b = b' /\ cap = cap' := by rcases h4 with h4 | h4 <;> cases h4; exact ⟨rfl, rfl⟩
        exact ⟨b, cap, .inr h3, h5⟩
      · omega
  | .ow o n i l, cs, hr => by
    simp only [RepA] at hr ⊢
    obtain ⟨T, e, m, z, xs, ho, hn, v, hv, h1, hp⟩ := hr
    obtain ⟨ct, dS, m', z', ys, rfl, fO⟩ := h.fob o _ ho
    refine ⟨T, e, m', z', ys, dS, ?_, v, hv, h1, fun hy => ?_⟩
    · rcases fO with ⟨hl, _⟩ | hl <;> omega
    · rcases fO with ⟨hl, j1, eg | ⟨b, cap, h2, h3⟩⟩ | hl
      · rw [eg]; exact hp (by omega)
      · obtain ⟨b', cap', h4, h5⟩ := hp (by omega)
        rw [h2] at h4
        obtain ⟨rfl, rfl⟩ : b = b' /\ cap = cap' := by rcases h4 with h4 | h4 <;> cases h4; exact ⟨rfl, rfl⟩
        exact ⟨b, cap, .inr h3, h5⟩
      · omega
  | .nils, cs, hr => by simp only [RepA] at hr ⊢; exact hr
  | .emp, cs, hr => by simp only [RepA] at hr ⊢; exact hr
  | .pr a b, cs, hr => by
    simp only [RepA] at hr ⊢
    obtain ⟨c1, c2, e, h1, h2⟩ := hr
    exact ⟨c1, c2, e, RepA.ev h a c1 h1, RepA.ev h b c2 h2⟩
  | .tup _, _, hr => by simp only [RepA] at hr
  | .fn f first cap, cs, hr => by
    simp only [RepA] at hr ⊢
    obtain ⟨vs, us, e, h1, h2⟩ := hr
    exact ⟨vs, us, e, RepFs.ev h first vs h1, RepFs.ev h cap us h2⟩
  | .nilfn, cs, hr => by simp only [RepA] at hr ⊢; exact hr
  | .iface t v, cs, hr => by
    simp only [RepA] at hr ⊢
    obtain ⟨u, e, h1, h2⟩ := hr
    exact ⟨u, e, RepA.ev h v _ h1, h2⟩
  | .nilif, cs, hr => by simp only [RepA] at hr ⊢; exact hr
  | .nilp, cs, hr => by simp only [RepA] at hr ⊢; exact hr
  | .ref o, cs, hr => by
    simp only [RepA] at hr ⊢
    obtain ⟨b, r, hm, ho, e⟩ := hr
    obtain ⟨ct, dS, fO⟩ := h.fob o _ ho
    cases ct with
    | rc r' => exact ⟨b, r', by rw [show bh o = μ o from fO.1]; exact hm, dS, by rw [e]; simp only [dx.val, fO.2]⟩
    | arr _ _ _ _ _ => exact fO.elim
    | box _ => exact fO.elim
theorem RepFs.ev (h : Ev w im μ hp w' bI bh bp) : ∀ (l : List AV) (vs : List Value), RepFs w im μ hp l vs -> RepFs w' bI bh bp l vs
  | [], vs, hr => by simp only [RepFs] at hr ⊢; exact hr
  | a :: l, vs, hr => by
    simp only [RepFs] at hr ⊢
    obtain ⟨v, us, e, h1, h2, h3⟩ := hr
    exact ⟨v, us, e, RepA.ev h a _ h1, h2, RepFs.ev h l us h3⟩
end
theorem bo.ev (h : Ev w im μ hp w' bI bh bp) {a : AV} {v : Value} (hr : bo w im μ hp a v) : bo w' bI bh bp a v := by
 cases a <;> first
  | trivial
  | (obtain ⟨vs, e, h1⟩ := hr; exact ⟨vs, e, RepFs.ev h _ _ h1⟩)
  | exact ⟨RepA.ev h _ _ hr.1, hr.2⟩
theorem RepA.one : ∀ (a : AV) (cs : List Value), RepA w im μ hp a cs -> ∀ v ∈ cs, v.oneCell' = true
 | .undef, _, hr => by simp only [RepA] at hr
 | .d t x, cs, hr => by simp only [RepA] at hr; exact hr.one
 | .ip t x, cs, hr => by
  grind [RepA, Value.oneCell']
 | .op o p off, cs, hr => by
  grind [RepA, Value.oneCell']
 | .os o n, cs, hr => by
  grind [RepA]
 | .oe o n i, cs, hr => by
  grind [RepA]
 | .ow o n i l, cs, hr => by
  grind [RepA]
 | .nils, cs, hr => by simp only [RepA] at hr; subst hr; simp [Value.oneCell']
 | .emp, cs, hr => by
  grind [RepA, Value.oneCell']
 | .pr a b, cs, hr => by
  simp only [RepA] at hr
  obtain ⟨c1, c2, rfl, h1, h2⟩ := hr
  intro v hv
  rcases List.mem_append.1 hv with hv | hv
  ·exact RepA.one a c1 h1 v hv
  ·exact RepA.one b c2 h2 v hv
 | .tup _, _, hr => by simp only [RepA] at hr
 | .fn f first cap, cs, hr => by
  grind [RepA, Value.oneCell']
 | .nilfn, cs, hr => by simp only [RepA] at hr; subst hr; simp [Value.oneCell']
 | .iface t v, cs, hr => by
  grind [RepA, Value.oneCell']
 | .nilif, cs, hr => by simp only [RepA] at hr; subst hr; simp [Value.oneCell']
 | .nilp, cs, hr => by simp only [RepA] at hr; subst hr; simp [Value.oneCell']
 | .ref o, cs, hr => by
  simp only [RepA] at hr
  obtain ⟨b, r, _, _, rfl⟩ := hr
  intro v hv
  simp only [List.mem_singleton] at hv
  subst hv
  unfold dx.val
  cases r.isMap <;> rfl
theorem ln.ev (h : Ev w im μ hp w' bI bh bp) : ∀ (l : List (ak × AV)) (es : List MapEntry), ln w im μ hp l es -> ln w' bI bh bp l es
 | [], es, hr => hr
 | (k, a) :: l, es, hr => by
  obtain ⟨e, EW, h1, h2, h3, h4, h5⟩ := hr
  exact ⟨e, EW, h1, h2, RepA.ev h _ _ h3, h4, ln.ev h l EW h5⟩
theorem wS.ev (h : Ev w im μ hp w' bI bh bp) {r : dx} {x : Obj} (hr : wS w im μ hp r x) : wS w' bI bh bp r x := by
 cases r with
 | map l =>
  obtain ⟨es, clock, h1, h2⟩ := hr
  exact ⟨es, clock, h1, ln.ev h _ _ h2⟩
 | loop lc fr st =>
  obtain ⟨r, h1, h2, h3, h4, h5, h6, h7⟩ := hr
  exact ⟨r, h1, h2, h3, h4, h5, fun p hp => bo.ev h (h6 p hp), h7⟩
theorem il.ev (h : Ev w im μ hp w' bI bh bp) {pl : Pl} {ob : aj} (hr : il w im μ hp pl ob) (hb : ∀ b, pl.blk = some b -> w'.heap[b]? = w.heap[b]?) : il w' bI bh bp pl ob := by
 cases ob with
 | box v =>
  obtain ⟨b, cells, T, rfl, hc, hv⟩ := hr
  exact ⟨b, cells, T, rfl, (hb b rfl).trans hc, RepA.ev h _ _ hv⟩
 | rc r =>
  obtain ⟨b, x, rfl, hc, hv⟩ := hr
  exact ⟨b, x, rfl, (hb b rfl).trans hc, wS.ev h hv⟩
 | arr T e m z xs =>
  rcases hr with ⟨a, rfl, rfl⟩ | ⟨hz, b, cap, cells, rfl, hc, h1, h2, h3, h4⟩ | ⟨hz, b, cap, cs, rfl, hi, h1, h2, h3, h4⟩
  ·exact .inl ⟨a, rfl, rfl⟩
  ·exact .inr (.inl ⟨hz, b, cap, cells, rfl, (hb b rfl).trans hc, h1, h2, h3, aR.mono (aM.mono h.fim h.fheap e) _ _ h4⟩)
  ·exact .inr (.inr ⟨hz, b, cap, cs, rfl, h.fim _ hi, h1, h2, h3.mono (h.fheap _ hi), aR.mono (aM.mono h.fim h.fheap e) _ _ h4⟩)
end
structure ASt where
 fr : Nat -> AV
 hp : Hp
structure Ctx where
 W : World
 im : Nat -> Prop
 own : Nat -> Prop
 n : Nat
 defers : List Deferred
 Γ : Nat -> Option AV
 h0 : Hp
 μ0 : Mu
 rd : Option Nat
 nm : Bool
def J9 (r : Nat) : Deferred := { target := .collected r, args := #[] }
structure zq (C : Ctx) (im : Nat -> Prop) (μ : Mu) (w : World) (rs : List Nat) : Prop where
 nodup : rs.Nodup
 none : C.nm = true -> rs = []
 all : ∀ r ∈ rs, C.W.heap.size <= r /\ r < w.heap.size /\ ¬ im r /\ (∀ o, (μ o).blk ≠ some r) /\ w.heap[r]? = some (.deferred (some []))
structure Inv (C : Ctx) (im : Nat -> Prop) (μ : Mu) (s : ASt) (a : Act) (w : World) : Prop where
 os : w.os = C.W.os
 tape : w.tape = C.W.tape
 output : w.output = C.W.output
 grow : C.W.heap.size <= w.heap.size
 old : ∀ b, b < C.W.heap.size -> ¬ C.own b -> w.heap[b]? = C.W.heap[b]?
 imC : ∀ b, C.im b -> im b
 imNew : ∀ b, im b -> C.im b \/ C.own b \/ C.W.heap.size <= b
 imLt : ∀ b, im b -> b < w.heap.size
 sep : ∀ o b, (μ o).blk = some b -> ¬ im b /\ b < w.heap.size /\ (C.own b \/ C.W.heap.size <= b)
 inj : ∀ o o' b, (μ o).blk = some b -> (μ o').blk = some b -> o = o'
 dom : ∀ o, s.hp o = none -> μ o = .none
 obj : ∀ o ob, s.hp o = some ob -> il w im μ s.hp (μ o) ob
 glob : ∀ g v, C.Γ g = some v -> bo w im μ s.hp v (.pointer (some ⟨g, 0, none⟩))
 fr : ∀ x, bo w im μ s.hp (s.fr x) (a.tmps.getD x Go.undef)
 size : a.tmps.size = C.n
 defers : ∃ rs, a.defers = rs.map J9 ++ C.defers /\ zq C im μ w rs
 pin : ∀ o ob, C.h0 o = some ob -> ∃ ct, s.hp o = some ct /\ cA ob (C.μ0 o) ct (μ o)
theorem zq.of_heap {C : Ctx} {im : Nat -> Prop} {μ : Mu} {w w' : World} {rs : List Nat} (h : zq C im μ w rs) (hh : w'.heap = w.heap) : zq C im μ w' rs :=
 ⟨h.nodup, h.none, fun r hr => by rw [hh]; exact h.all r hr⟩
def Rel (C : Ctx) (s : ASt) (a : Act) (w : World) : Prop := ∃ im μ, Inv C im μ s a w
def ly (f : Nat -> AV) (d : Nat) (v : AV) : Nat -> AV := fun x => bif Nat.beq x d then v else f x
def ASt.put (s : ASt) (d : Option Nat) (v : AV) : ASt :=
 match d with
 | some d => { s with fr := ly s.fr d v }
 | none => s
theorem pB (f : Nat -> AV) (d : Nat) (v : AV) : ly f d v d = v := by simp [ly]
theorem wT (f : Nat -> AV) {d x : Nat} (v : AV) (h : x ≠ d) : ly f d v x = f x := by
 have : Nat.beq x d = false := by
  grind [bj]
 simp [ly, this]
theorem Inv.step {C : Ctx} {im bI : Nat -> Prop} {μ bh : Mu} {s : ASt} {bp : Hp} {a : Act} {w w' : World} (h : Inv C im μ s a w)
  (ev : Ev w im μ s.hp w' bI bh bp)
  (hos : w'.os = w.os) (htape : w'.tape = w.tape) (hout : w'.output = w.output) (hgrow : w.heap.size <= w'.heap.size)
  (hold : ∀ b, b < w.heap.size -> (∀ o, (μ o).blk ≠ some b) -> w'.heap[b]? = w.heap[b]?)
  (himNew : ∀ b, bI b -> im b \/ (∃ o, (μ o).blk = some b) \/ w.heap.size <= b) (himLt : ∀ b, bI b -> b < w'.heap.size)
  (hsep : ∀ o b, (bh o).blk = some b -> ¬ bI b /\ b < w'.heap.size /\ ((∃ o0, (μ o0).blk = some b) \/ w.heap.size <= b))
  (hinj : ∀ o o' b, (bh o).blk = some b -> (bh o').blk = some b -> o = o')
  (hdom : ∀ o, bp o = none -> bh o = .none)
  (hobj : ∀ o ob, bp o = some ob -> il w' bI bh bp (bh o) ob)
  (dst : Option Nat) (hd : ∀ d, dst = some d -> d < C.n) (av : AV) (v : Value) (hv : bo w' bI bh bp av v) :
  Inv C bI bh ⟨(s.put dst av).fr, bp⟩ (a.put dst v) w' := by
 refine ⟨hos.trans h.os, htape.trans h.tape, hout.trans h.output, Nat.le_trans h.grow hgrow, ?_, fun b hb => ev.fim b (h.imC b hb), ?_, himLt, ?_, hinj, hdom, hobj, ?_, ?_, ?_, ?_, ?_⟩
 ·intro b hb hown
  rw [hold b (Nat.lt_of_lt_of_le hb h.grow) (fun o ho => ?_), h.old b hb hown]
  rcases (h.sep o b ho).2.2 with h1 | h1
  all_goals grind
 ·intro b hb
  rcases himNew b hb with h1 | ⟨o, h1⟩ | h1
  ·exact h.imNew b h1
  ·exact .inr (h.sep o b h1).2.2
  ·exact .inr (.inr (Nat.le_trans h.grow h1))
 ·intro o b ho
  obtain ⟨h1, h2, h3⟩ := hsep o b ho
  refine ⟨h1, h2, ?_⟩
  rcases h3 with ⟨o0, h3⟩ | h3
  ·exact (h.sep o0 b h3).2.2
  ·exact .inr (Nat.le_trans h.grow h3)
 ·intro g gv hg
  exact (h.glob g gv hg).ev ev
 ·intro x
  cases dst with
  | none => exact (h.fr x).ev ev
  | some d =>
   by_cases hx : x = d
   ·subst hx
    have hput : ((s.put (some x) av).fr) x = av := pB _ _ _
    show bo w' bI bh bp (((s.put (some x) av).fr) x) _
    rw [hput]
    have bJ : x < a.tmps.size := by rw [h.size]; exact hd x rfl
    simpa [Act.put, bJ] using hv
   ·show bo w' bI bh bp (ly s.fr d av x) _
    rw [wT _ _ hx]
    have : (a.put (some d) v).tmps.getD x Go.undef = a.tmps.getD x Go.undef := by
     simp [Act.put, Array.getD_eq_getD_getElem?, Array.getElem?_setIfInBounds_ne (Ne.symm hx)]
    rw [this]
    exact (h.fr x).ev ev
 ·cases dst <;> simp [Act.put, h.size]
 ·obtain ⟨rs, h1, h2⟩ := h.defers
  refine ⟨rs, by cases dst <;> simp [Act.put, h1], h2.nodup, h2.none, fun r hr => ?_⟩
  obtain ⟨g1, g2, g3, g4, g5⟩ := h2.all r hr
  refine ⟨g1, Nat.lt_of_lt_of_le g2 hgrow, fun hi => ?_, fun o ho => ?_, (hold r g2 g4).trans g5⟩
  ·rcases himNew r hi with h | ⟨o, h⟩ | h
   ·exact g3 h
   ·exact g4 o h
   ·omega
  ·rcases (hsep o r ho).2.2 with ⟨o0, h⟩ | h
   ·exact g4 o0 h
   ·omega
 ·intro o ob ho
  obtain ⟨na, h1, h2⟩ := h.pin o ob ho
  obtain ⟨rF, h3, h4⟩ := ev.fob o _ h1
  exact ⟨rF, h3, h2.trans h4⟩
end Go.Vm
