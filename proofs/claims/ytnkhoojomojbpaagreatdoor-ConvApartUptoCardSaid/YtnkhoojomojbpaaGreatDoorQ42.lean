/- conv.begin over data: told. -/
import Derived.Test.YtnkhoojomojbpaaGreatDoorQ41
import Derived.Test.YtnkhoojomojbpaaGreatDoorQ40
import Derived.Test.YtnkhoojomojbpaaGreatDoorQ38
import Derived.Test.YtnkhoojomojbpaaGreatDoorQ36
set_option maxRecDepth 100000
set_option maxHeartbeats 4000000
namespace Go.Proofs.XRT
open Go.Vm Go Tryz IntKind
noncomputable section
def aH (t : (Y0).den) : (Y3).den := ([], t.1, t.2.1, ())
def rK (ts : List (Y0).den) : Bool := ts.all fun t => gG t.1 t.2.1 t.2.2.1 == 0
def fg (ts : List (Y0).den) : Bool := ts.all fun t => decide (List.length t.2.1 <= 2147483648 /\ List.length t.2.2.1 <= 2147483648)
noncomputable def CA (n : dL) (o : cg) : Option (aq × LHp) := bif PS n o then some (.ret [.d (Y3) (Ow n o), I (ET n o)], []) else none
def aiH (n : dL) (ts : List (Y0).den) (i : Int) (o : cg) : LSt := match o with
 | [] => xh n ts i
 | v :: o => Cz (v :: o) n ts i
def bgN (o : cg) (t : (Y0).den) : Nx (cg) (aq × LHp) := bif gG t.1 t.2.1 t.2.2.1 != 0 then .stop (C9 1) else .go (o ++ [aH t])
theorem G1 (n : dL) : ∀ (ts : List (Y0).den) (o : cg), cm bgN (CA n) ts o = bif rK ts then CA n (o ++ ts.map aH) else C9 1
 | [], o => by rw [cm, List.map_nil, List.append_nil]; rfl
 | t :: ts, o => by
  have e : bgN o t = bif gG t.1 t.2.1 t.2.2.1 != 0 then .stop (C9 1) else .go (o ++ [aH t]) := rfl
  have eo : rK (t :: ts) = ((gG t.1 t.2.1 t.2.2.1 == 0) && rK ts) := rfl
  rw [cm, e, eo]
  cases h : gG t.1 t.2.1 t.2.2.1 != 0 with
  | true => rw [pV h]; rfl
  | false =>
   have h0 : (gG t.1 t.2.1 t.2.2.1 == 0) = true := by simpa using h
   rw [h0, ax, Bool.true_and]
   show cm bgN _ ts _ = _
   rw [G1 n ts, List.append_assoc]
   rfl
theorem abU {n : dL} {ts : List (Y0).den} (hs : fg ts = true) (hl : ts.length <= 2147483648) : lp nM ix zh fu (xh n ts 0) U9 = bif rK ts then CA n (ts.map aH) else C9 1 := by
 have hm : maxLen = 9223372036854775807 := by decide
 refine (dD (xs := ts) (T := fun m s => lp nM ix zh m s U9) (st := fun (i : Int) (o : cg) => aiH n ts i o) (f := bgN) (fin := CA n) (fun (i : Nat) (o : cg) => o.length = i) (by omega) ?_ ?_ (a := []) rfl).trans (G1 n ts [])
 ·intro i o t m hI hi gx gi hw hd
  have ht := aZ (List.all_eq_true.1 hs t (List.mem_of_getElem? gx))
  have e : bgN o t = bif gG t.1 t.2.1 t.2.2.1 != 0 then .stop (C9 1) else .go (o ++ [aH t]) := rfl
  have PI : decide (List.length t.2.1 <= 9223372036854775807 /\ List.length t.2.2.1 <= 9223372036854775807) = true := aE (by have := ht.1; have := ht.2; omega)
  cases o with
  | nil =>
   have hs := Ox n ts (i : Int) m U9
   rw [hd, ak, gi, aA, PI, ak, hw] at hs
   cases h : gG t.1 t.2.1 t.2.2.1 != 0 with
   | true =>
    rw [h, ak] at hs e
    exact .inr ⟨_, e, hs.trans (by kernel_rfl)⟩
   | false =>
    rw [h, ax] at hs e
    exact .inl ⟨_, e, by rw [List.length_append, hI]; rfl, hs⟩
  | cons v o =>
   have lA : (v :: o).length + [aH t].length <= lim := by rw [hI, List.length_singleton, show lim = 4294967296 from rfl]; omega
   have ev : (([], t.1, t.2.1, PUnit.unit) : (Y3).den) = aH t := rfl
   have hs := Oy v o n ts (i : Int) m U9
   rw [hd, ak, gi, aA, PI, ak, hw, ev, fB lA] at hs
   cases h : gG t.1 t.2.1 t.2.2.1 != 0 with
   | true =>
    rw [h, ak] at hs e
    exact .inr ⟨_, e, hs.trans (by kernel_rfl)⟩
   | false =>
    rw [h, ax, aA] at hs
    rw [h, ax] at e
    exact .inl ⟨_, e, by rw [List.length_append, hI]; rfl, hs⟩
 ·intro o m hI hd
  cases o with
  | nil =>
   show lp _ _ _ (m + 1) (xh n ts (ts.length : Int)) _ = _
   rw [Ox, hd, ax]
   exact abS n ts (ts.length : Int)
  | cons v o =>
   show lp _ _ _ (m + 1) (Cz (v :: o) n ts (ts.length : Int)) _ = _
   rw [Oy, hd, ax]
   exact abT (v :: o) n ts (ts.length : Int)
theorem agB (n : dL) (ts : List (Y0).den) : hlp nM ix zh (aq × LHp) (xh n ts 0) U9 = lp nM ix zh fu (xh n ts 0) U9 := rfl
noncomputable def qH (n : dL) (ts : List (Y0).den) : Int := bif rK ts then ET n (ts.map aH) else 1
noncomputable def j1 (n : dL) (ts : List (Y0).den) : (Y3).den := bif rK ts then Ow n (ts.map aH) else ([], 0, [], ())
noncomputable def Da (n : dL) (ts : List (Y0).den) : Bool := fg ts && (decide (ts.length <= 2147483648) && (!rK ts || PS n (ts.map aH)))
noncomputable def bgF : List AV -> LHp -> Tq
 | [.d Y2 n, .d (.slice Y0) ts], [] => .br (Da n ts) (.leaf (.ret [.d (Y3) (j1 n ts), I (qH n ts)]) []) .no
 | _, _ => .no
theorem abV {n : dL} {ts : List (Y0).den} (hg : Da n ts = true) : ∃ p, aC nM f23 6 [(3, [2, 4, 6, 9, 10, 11])] [.d (Y2) n, .d (.slice (Y0)) ts] [] ah = some p /\ U6 (some p) = some (.ret [.d (Y3) (j1 n ts), I (qH n ts)], []) := by
 unfold Da at hg
 rw [bg, bg] at hg
 obtain ⟨g1, g2, g3⟩ := hg
 have h9 := (abR n ts).trans ((agB n ts).trans (abU (n := n) g1 (aZ g2)))
 unfold j1 qH
 cases hq : rK ts with
 | false =>
  rw [hq, ax] at h9
  exact ⟨_, h9, rfl⟩
 | true =>
  rw [hq, ak] at h9
  rw [hq] at g3
  have g3 : PS n (ts.map aH) = true := g3
  unfold CA at h9
  rw [g3, ak] at h9
  exact ⟨_, h9, rfl⟩
theorem CB {E : Env} {fn : Func} {depth : Nat} {live : List (Nat × List Nat)} {R : Type} (args : List AV) (hs : LHp) (k : aq -> LHp -> Option R) : (au E fn depth live).run args hs k = aC E fn depth live args hs k := rfl
noncomputable def bgR : FnE := au nM f23 6 [(3, [2, 4, 6, 9, 10, 11])]
theorem Oz : bE 23 bgR := bS Jz func23 call23
theorem abW : bE 23 (ao bgF) := by
 have h1 : bE 23 (El [(Y3), af] bgR) := F0 Oz
 refine aO fun args hs ae aF h' => ?_
 unfold bgF at h'
 split at h'
 ·rename_i n ts
  obtain ⟨hg, h2⟩ := Tq.br_no h'
  obtain ⟨p, h3, h4⟩ := abV hg
  refine h1.ok _ _ _ _ (Eq.trans ?_ (h4.trans h2))
  simp only [El]
  rw [Oz.eq]
  have h5 : bgR.run [.d (Y2) n, .d (.slice (Y0)) ts] [] (fun a h => some (a, h)) = some p := by
   unfold bgR
   rw [CB]
   exact h3
  rw [h5]
  obtain ⟨ae0, hs0⟩ := p
  rfl
 ·cases h'
noncomputable def bgE : FnE := cU [(Y2), .slice (Y0)] (ao bgF)
theorem abX : bE 23 bgE := bF abW
def aiJ (ts : List (Y0).den) (i : Int) (o : List (Y0).den) : LSt := match o with
 | [] => uv ts i
 | v :: o => BZ (v :: o) ts i
def CC (o : List (Y0).den) : Option (aq × LHp) := match o with
 | [] => some (.ret [.nils], [])
 | v :: o => some (.ret [.os 0 0], [(0, .arr 34 (Y0) 0 false (v :: o))])
def cpN (o : List (Y0).den) (t : (Y0).den) : Nx (List (Y0).den) (aq × LHp) := .go (o ++ [t])
theorem G2 : ∀ (ts o : List (Y0).den), cm cpN CC ts o = CC (o ++ ts)
 | [], o => by rw [cm, List.append_nil]
 | t :: ts, o => by
  rw [cm]
  show cm cpN CC ts (o ++ [t]) = _
  rw [G2 ts, List.append_assoc]
  rfl
theorem abY {ts : List (Y0).den} (hs : fg ts = true) (hl : ts.length <= 2147483648) : lp pE ig Sq fu (uv ts 0) Yj = CC ts := by
 have hm : maxLen = 9223372036854775807 := by decide
 refine (dD (xs := ts) (T := fun m s => lp pE ig Sq m s Yj) (st := fun (i : Int) (o : List (Y0).den) => aiJ ts i o) (f := cpN) (fin := CC) (fun (i : Nat) (o : List (Y0).den) => o.length = i) (by omega) ?_ ?_ (a := []) rfl).trans (G2 ts [])
 ·intro i o t m hI hi gx gi hw hd
  have ht := aZ (List.all_eq_true.1 hs t (List.mem_of_getElem? gx))
  left
  refine ⟨o ++ [t], rfl, by rw [List.length_append, hI]; rfl, ?_⟩
  cases o with
  | nil =>
   have h := Mf ts (i : Int) m Yj
   rw [hd, ak, gi, aA, aE ht, ak, hw] at h
   exact h
  | cons v o =>
   have lA : (v :: o).length + [t].length <= lim := by rw [hI, List.length_singleton, show lim = 4294967296 from rfl]; omega
   have h := Mg v o ts (i : Int) m Yj
   rw [hd, ak, gi, aA, aE ht, ak, hw, fB lA, aA] at h
   exact h
 ·intro o m hI hd
  cases o with
  | nil =>
   show lp _ _ _ (m + 1) (uv ts (ts.length : Int)) _ = _
   rw [Mf, hd, ax]
   kernel_rfl
  | cons v o =>
   show lp _ _ _ (m + 1) (BZ (v :: o) ts (ts.length : Int)) _ = _
   rw [Mg, hd, ax]
   kernel_rfl
theorem agC (ts : List (Y0).den) : hlp pE ig Sq (aq × LHp) (uv ts 0) Yj = lp pE ig Sq fu (uv ts 0) Yj := rfl
def abZ : List AV -> LHp -> Tq
 | [.d (.slice Y0) (t :: ts)], [] => .br (fg (t :: ts) && decide (ts.length <= 2147483640)) (.leaf (.ret [.os 0 0]) [(0, .arr 34 (Y0) 0 false (t :: ts))]) .no
 | _, _ => .no
theorem Vb : bE 9 (ao abZ) := by
 have h1 := bS (d := 5) (l := [(3, [0, 3, 4])]) IQ func9 call9
 refine aO fun args hs ae aF h' => ?_
 unfold abZ at h'
 split at h'
 ·rename_i t ts
  obtain ⟨hb, h2⟩ := Tq.br_no h'
  rw [bg] at hb
  have hl := aZ hb.2
  have h9 := (Yh (t :: ts)).trans ((agC (t :: ts)).trans (abY hb.1 (by simp only [List.length_cons]; omega)))
  exact h1.okC (h9.trans h2)
 ·cases h'
def zi (ts : List (Y0).den) : Bool := ts.all (fun t => decide (List.length t.2.2.1 <= 600)) && decide (ts.length <= 6)
def smN (_ : Unit) (t : (Y0).den) : Nx Unit (aq × LHp) := bif decide (Int.ofNat (List.length t.2.2.1) > 600) then .stop (some (.ret [B false], [])) else .go ()
theorem G3 (b : Bool) : ∀ (ts : List (Y0).den), cm smN (fun _ => some (.ret [B b], [])) ts () = some (.ret [B (ts.all (fun t => decide (List.length t.2.2.1 <= 600)) && b)], [])
 | [] => rfl
 | t :: ts => by
  rw [cm]
  have e : smN () t = bif decide (Int.ofNat (List.length t.2.2.1) > 600) then .stop (some (.ret [B false], [])) else .go () := rfl
  rw [e, List.all_cons]
  by_cases h : List.length t.2.2.1 <= 600
  ·rw [aE h, de (show ¬ (Int.ofNat (List.length t.2.2.1) > 600) by simp only [aT]; omega), Bool.true_and]
   exact G3 b ts
  ·rw [de h, aE (show Int.ofNat (List.length t.2.2.1) > 600 by simp only [aT]; omega)]
   rfl
theorem ab0 {ts : List (Y0).den} (hl : ts.length <= 2147483648) : lp e0 jS Yc fu (B0 ts 0) KSm = some (.ret [B (zi ts)], []) := by
 have hm : maxLen = 9223372036854775807 := by decide
 have e6 : decide (Int.ofNat ts.length <= 6) = decide (ts.length <= 6) := decide_eq_decide.2 (by simp only [aT]; omega)
 refine (dD (xs := ts) (T := fun m s => lp e0 jS Yc m s KSm) (st := fun (i : Int) (_ : Unit) => B0 ts i) (f := smN) (fin := fun _ => some (.ret [B (decide (ts.length <= 6))], [])) (fun (_ : Nat) (_ : Unit) => True) (by omega) ?_ ?_ (a := ()) trivial).trans (G3 _ ts)
 ·intro i _ t m _ hi gx gi hw hd
  have e : smN () t = bif decide (Int.ofNat (List.length t.2.2.1) > 600) then .stop (some (.ret [B false], [])) else .go () := rfl
  have h := Wj ts (i : Int) m KSm
  rw [hd, ak, gi, aA, hw] at h
  cases hq : decide (Int.ofNat (List.length t.2.2.1) > 600) with
  | true =>
   rw [hq, ak] at h e
   exact .inr ⟨_, e, h.trans (by kernel_rfl)⟩
  | false =>
   rw [hq, ax] at h e
   exact .inl ⟨(), e, trivial, h⟩
 ·intro _ m _ hd
  show lp _ _ _ (m + 1) (B0 ts (ts.length : Int)) _ = _
  rw [Wj, hd, ax, ← e6]
  kernel_rfl
theorem agD (ts : List (Y0).den) : hlp e0 jS Yc (aq × LHp) (B0 ts 0) KSm = lp e0 jS Yc fu (B0 ts 0) KSm := rfl
def ab1 : List AV -> LHp -> Tq
 | [.d (.slice Y0) ts], [] => .br (decide (ts.length <= 2147483648)) (.leaf (.ret [B (zi ts)]) []) .no
 | _, _ => .no
theorem Vc : bE 7 (ao ab1) := by
 have h1 : bE 7 (au e0 f7 5 [(2, [0, 3])]) := Wd
 refine aO fun args hs ae aF h' => ?_
 unfold ab1 at h'
 split at h'
 ·rename_i ts
  obtain ⟨hb, h2⟩ := Tq.br_no h'
  exact h1.okC (((Yi ts).trans ((agD ts).trans (ab0 (aZ hb)))).trans h2)
 ·cases h'
noncomputable def zj (x : Int) (y : Int) : Option (aq × LHp) := bif (FloatKind.f32.format.read (fop BinOp.add FloatKind.f32 (aI FloatKind.f32 (u32.wrap x).toNat) (aI FloatKind.f32 (u32.wrap y).toNat))).order (FloatKind.f32.format.read (fop BinOp.add FloatKind.f32 (aI FloatKind.f32 (u32.wrap x).toNat) (aI FloatKind.f32 (u32.wrap y).toNat))) != some Ordering.eq then ay [I 2143289344] else bif l6 FloatKind.f32 (fop BinOp.add FloatKind.f32 (aI FloatKind.f32 (u32.wrap x).toNat) (aI FloatKind.f32 (u32.wrap y).toNat)) then none else ay [I (i64.wrap (Int.ofNat (fop BinOp.add FloatKind.f32 (aI FloatKind.f32 (u32.wrap x).toNat) (aI FloatKind.f32 (u32.wrap y).toNat))))]
theorem ab2 (x y : Int) : aC IL f63 5 [] [.d .str K8, I x, I y] [] ah = bif !bz 1 x then ay [I 0] else bif !bz 1 y then ay [I 0] else bif (FloatKind.f32.format.read (aI FloatKind.f32 (u32.wrap x).toNat)).order (FloatKind.f32.format.read (aI FloatKind.f32 (u32.wrap x).toNat)) != some Ordering.eq then zj x y else zj x y := by kernel_rfl
theorem ab3 (x y : Int) : aC IL f63 5 [] [.d .str Lb, I x, I y] [] ah = bif !bz 1 x then ay [I 0] else bif !bz 1 y then ay [I 0] else bif (FloatKind.f32.format.read (aI FloatKind.f32 (u32.wrap x).toNat)).order (FloatKind.f32.format.read (aI FloatKind.f32 (u32.wrap x).toNat)) != some Ordering.eq then ay [I 2143289344] else bif (FloatKind.f32.format.read (aI FloatKind.f32 (u32.wrap y).toNat)).order (FloatKind.f32.format.read (aI FloatKind.f32 (u32.wrap y).toNat)) != some Ordering.eq then ay [I 2143289344] else bif (FloatKind.f32.format.read (aI FloatKind.f32 (u32.wrap x).toNat)).order (FloatKind.f32.format.read (aI FloatKind.f32 (u32.wrap y).toNat)) == some Ordering.eq then ay [I (i64.wrap (Int.ofNat (BitVec.ofInt 64 x &&& BitVec.ofInt 64 y).toNat))] else bif (FloatKind.f32.format.read (aI FloatKind.f32 (u32.wrap x).toNat)).order (FloatKind.f32.format.read (aI FloatKind.f32 (u32.wrap y).toNat)) == some Ordering.gt then ay [I x] else ay [I y] := by kernel_rfl
noncomputable def zk (x : Int) (y : Int) : Option (aq × LHp) := bif (FloatKind.f32.format.read (fop BinOp.quo FloatKind.f32 (aI FloatKind.f32 (u32.wrap x).toNat) (aI FloatKind.f32 (u32.wrap y).toNat))).order (FloatKind.f32.format.read (fop BinOp.quo FloatKind.f32 (aI FloatKind.f32 (u32.wrap x).toNat) (aI FloatKind.f32 (u32.wrap y).toNat))) != some Ordering.eq then ay [I 2143289344] else bif l6 FloatKind.f32 (fop BinOp.quo FloatKind.f32 (aI FloatKind.f32 (u32.wrap x).toNat) (aI FloatKind.f32 (u32.wrap y).toNat)) then none else ay [I (i64.wrap (Int.ofNat (fop BinOp.quo FloatKind.f32 (aI FloatKind.f32 (u32.wrap x).toNat) (aI FloatKind.f32 (u32.wrap y).toNat))))]
theorem ab4 (x y : Int) : aC IL f63 5 [] [.d .str La, I x, I y] [] ah = bif !bz 1 x then ay [I 0] else bif !bz 1 y then ay [I 0] else bif (FloatKind.f32.format.read (aI FloatKind.f32 (u32.wrap x).toNat)).order (FloatKind.f32.format.read (aI FloatKind.f32 (u32.wrap x).toNat)) != some Ordering.eq then zk x y else zk x y := by kernel_rfl
def cw (x : Int) : Nat := aI FloatKind.f32 (u32.wrap x).toNat
def OA (z : Nat) : Int := bif l6 .f32 z then 2143289344 else i64.wrap (Int.ofNat z)
def js (op : BinOp) (x y : Int) : Int := bif bz 1 x && bz 1 y then OA (fop op .f32 (cw x) (cw y)) else 0
def rdW (x : Int) : Ieee.Datum := FloatKind.f32.format.read (cw x)
def JA (x y : Int) : Int :=
 bif bz 1 x && bz 1 y then
  bif (rdW x).isNaN || (rdW y).isNaN then 2143289344
  else bif (rdW x).order (rdW y) == some .eq then i64.wrap (Int.ofNat (BitVec.ofInt 64 x &&& BitVec.ofInt 64 y).toNat)
  else bif (rdW x).order (rdW y) == some .gt then x else y
 else 0
theorem lT (d : Ieee.Datum) : (d.order d != some Ordering.eq) = d.isNaN := by
 cases d with
 | number s m e =>
  simp [Ieee.Datum.order, Ieee.Datum.isNaN, Int.min_self, Std.ReflCmp.compare_self]
 | infinity s =>
  cases s <;> simp [Ieee.Datum.order, Ieee.Datum.isNaN]
 | _ => simp [Ieee.Datum.order, Ieee.Datum.isNaN]
theorem zl (op : BinOp) (x y : Int) : (bif (FloatKind.f32.format.read (fop op .f32 (cw x) (cw y))).order (FloatKind.f32.format.read (fop op .f32 (cw x) (cw y))) != some Ordering.eq then (ay [I 2143289344] : Option (aq × LHp)) else bif l6 .f32 (fop op .f32 (cw x) (cw y)) then none else ay [I (i64.wrap (Int.ofNat (fop op .f32 (cw x) (cw y))))]) = some (.ret [I (OA (fop op .f32 (cw x) (cw y)))], []) := by
 rw [lT]
 unfold OA
 show (bif l6 .f32 _ then _ else bif l6 .f32 _ then _ else _) = _
 cases l6 .f32 (fop op .f32 (cw x) (cw y)) <;> rfl
theorem Vd (x y : Int) : aC IL f63 5 [] [.d .str K8, I x, I y] [] ah = some (.ret [I (js .add x y)], []) := by
 rw [ab2]; simp only [zj]
 have h := zl .add x y
 unfold cw at h
 unfold js cw
 cases bz 1 x with
 | false => rfl
 | true =>
  cases bz 1 y with
  | false => rfl
  | true =>
   simp only [Bool.not_true, ax, Bool.and_true, ak]
   cases _ != some Ordering.eq with
   | false => exact h
   | true => exact h
theorem Ve (x y : Int) : aC IL f63 5 [] [.d .str La, I x, I y] [] ah = some (.ret [I (js .quo x y)], []) := by
 rw [ab4]; simp only [zk]
 have h := zl .quo x y
 unfold cw at h
 unfold js cw
 cases bz 1 x with
 | false => rfl
 | true =>
  cases bz 1 y with
  | false => rfl
  | true =>
   simp only [Bool.not_true, ax, Bool.and_true, ak]
   cases (FloatKind.f32.format.read (aI FloatKind.f32 (u32.wrap x).toNat)).order (FloatKind.f32.format.read (aI FloatKind.f32 (u32.wrap x).toNat)) != some Ordering.eq with
   | false => exact h
   | true => exact h
theorem Vf (x y : Int) : aC IL f63 5 [] [.d .str Lb, I x, I y] [] ah = some (.ret [I (JA x y)], []) := by
 rw [ab3, lT, lT]
 unfold JA rdW cw
 cases bz 1 x with
 | false => rfl
 | true =>
  cases bz 1 y with
  | false => rfl
  | true =>
   simp only [Bool.not_true, ax, Bool.and_true, ak]
   cases (FloatKind.f32.format.read (aI FloatKind.f32 (u32.wrap x).toNat)).isNaN with
   | true => rfl
   | false =>
    cases (FloatKind.f32.format.read (aI FloatKind.f32 (u32.wrap y).toNat)).isNaN with
    | true => rfl
    | false =>
     simp only [Bool.false_or, ax]
     cases (FloatKind.f32.format.read (aI FloatKind.f32 (u32.wrap x).toNat)).order (FloatKind.f32.format.read (aI FloatKind.f32 (u32.wrap y).toNat)) == some Ordering.eq with
     | true => rfl
     | false =>
      cases (FloatKind.f32.format.read (aI FloatKind.f32 (u32.wrap x).toNat)).order (FloatKind.f32.format.read (aI FloatKind.f32 (u32.wrap y).toNat)) == some Ordering.gt <;> rfl
def JB : List AV -> LHp -> Tq
 | [.d .str op, .d zI x, .d zI y], [] =>
  .br (decide (op = [65, 100, 100])) (.leaf (.ret [I (js .add x y)]) []) (.br (decide (op = [77, 97, 120])) (.leaf (.ret [I (JA x y)]) []) (.br (decide (op = [68, 105, 118])) (.leaf (.ret [I (js .quo x y)]) []) .no))
 | _, _ => .no
theorem sn : bE 63 (ao JB) := by
 have h1 : bE 63 (au IL f63 5 []) := L7
 refine aO fun args hs ae aF h' => ?_
 unfold JB at h'
 split at h'
 ·rename_i op x y
  simp only [Tq.run] at h'
  by_cases c1 : op = [65, 100, 100]
  ·subst c1
   cases h'
   exact h1.okC (Vd x y)
  ·rw [de c1] at h'
   by_cases c2 : op = [77, 97, 120]
   ·subst c2
    cases h'
    exact h1.okC (Vf x y)
   ·rw [de c2] at h'
    by_cases c3 : op = [68, 105, 118]
    ·subst c3
     cases h'
     exact h1.okC (Ve x y)
    ·rw [de c3] at h'
     cases h'
 ·cases h'
noncomputable def OB : Code := bD f65
noncomputable def Vg : Code := cL (cR (cL (cR (cR OB))))
noncomputable def j2 : Cfg := ⟨46, 6, 3, [(3, [0, 1, 2, 3, 4, 7, 8, 9, 14, 15, 16, 17, 18, 20, 21, 22, 23, 24, 26, 27, 28, 29, 30, 32, 33, 34])], true⟩
noncomputable def agE : Code := bD f110
noncomputable def iQ : Code := cL (cL (cR agE))
noncomputable def cr : Cfg := ⟨80, 7, 8, [(1, [0, 1, 2, 3, 12, 13])], true⟩
noncomputable def gA : Env := g78.add 63 (ao JB)
theorem G4 : gA.Good := pB.add sn
noncomputable def gR : Env := gA.withRound (qv gA [])
theorem G5 : gR.Good := G4.withRound (qw G4 bX [])
noncomputable def gT (F : FnE) : Env := (Sf.add 63 (ao JB)).add 110 F
abbrev bp := Int × Int × Int × Int × ag × ag × Int × Int × Int × Int × Unit
def OD (v : bp) : AV := .d (Y4) v
def hpW (v : bp) (h w : Int) : LHp := [(0, .box (I w)), (1, .box (I h)), (2, .box (OD v))]
def OE : AV := .fn (.func 110) [] [.op 2 [] 0, .op 1 [] 0, .op 0 [] 0]
theorem ab6 (F : FnE) (op : aj) (aP : ag) (v : bp) (h w : Int) : aC (gT F) f65 6 [(3, [0, 1, 2, 3, 4, 7, 8, 9, 14, 15, 16, 17, 18, 20, 21, 22, 23, 24, 26, 27, 28, 29, 30, 32, 33, 34])] [.d .str op, .d (.slice af) aP, OE] (hpW v h w) ah = (rfp (gT F) j2) Vg _ { fr := aw 6 [(0, AV.d Ty.str op), (1, AV.d (af).slice aP), (2, AV.fn (Fn.func 110) [] [AV.op 2 [] 0, AV.op 1 [] 0, AV.op 0 [] 0]), (3, AV.op 3 [] 0), (4, AV.op 4 [] 0), (6, I 0), (7, AV.op 5 [] 0), (8, AV.op 6 [] 0), (13, AV.fn (Fn.func 110) [] [AV.op 2 [] 0, AV.op 1 [] 0, AV.op 0 [] 0])], hp := [(6, al.box (I 0)), (5, al.box (I 0)), (6, al.box (I 0)), (5, al.box (I 0)), (4, al.box (AV.d (af).slice aP)), (3, al.box (AV.d Ty.str op)), (0, al.box (I w)), (1, al.box (I h)), (2, al.box (AV.d Y4 v))], nx := 7 } (aW 0 (Sl (gT F) j2 (rfp (gT F) j2) (cR (cR (cR OB))) (bA prog 3 f65.results.toList ah))) := (X8 j2 rfl).trans (by obtain ⟨hl, h⟩ := X9 (gT F) j2; rw [h]; kernel_rfl)
def frT (op : aj) (aP : ag) : Tr := aw 6 [(0, .d .str op), (1, .d (.slice af) aP), (2, OE), (3, .op 3 [] 0), (4, .op 4 [] 0), (6, I 0), (7, .op 5 [] 0), (8, .op 6 [] 0), (13, OE)]
def ab8 (op : aj) (aP : ag) (v : bp) (h w : Int) : LHp := [(6, .box (I 0)), (5, .box (I 0)), (6, .box (I 0)), (5, .box (I 0)), (4, .box (.d (.slice af) aP)), (3, .box (.d .str op))] ++ hpW v h w
def agF (cf : Cfg) : Code -> vS
 | .rangeFunc _ ps a b => ⟨cf.depth, ps, a, b, cf.n⟩
 | _ => ⟨0, #[], .skip, .skip, 0⟩
noncomputable def zm : vS := agF j2 Vg
def aiL (op : aj) (aP : ag) : List (Nat × AV) := [(0, .d .str op), (1, .d (.slice af) aP), (2, .fn (.func 110) [] [.op 6 [] 0, .op 5 [] 0, .op 4 [] 0]), (3, .op 3 [] 0), (4, .op 2 [] 0), (7, .op 1 [] 0), (8, .op 0 [] 0)]
noncomputable def G6 (op : aj) (aP : ag) (v : bp) (h w m s : Int) : LHp := [(0, .box (I s)), (1, .box (I m)), (2, .box (.d (.slice af) aP)), (3, .box (.d .str op)), (4, .box (I w)), (5, .box (I h)), (6, .box (OD v)), (7, .rc (.loop zm (aiL op aP) .ready))]
noncomputable def G7 (op : aj) (aP : ag) (v : bp) (h w N i m s : Int) : LSt := ⟨aw 7 [(0, .ref 7), (1, .op 6 [] 0), (2, .op 5 [] 0), (3, .op 4 [] 0), (12, I N), (13, I i)], G6 op aP v h w m s, 16⟩
theorem ab9 (op : aj) (aP : ag) (v : bp) (h w m s : Int) : aC gR f110 7 [(1, [0, 1, 2, 3, 12, 13])] [.ref 7, .op 6 [] 0, .op 5 [] 0, .op 4 [] 0] (G6 op aP v h w m s) ah = (hlp gR cr) iQ _ (G7 op aP v h w (i64.wrap (v.2.2.1 * v.2.2.2.1)) 0 m s) (aW 0 (bA prog 8 f110.results.toList ah)) := (bI [1] cr rfl).trans (by obtain ⟨hl, h⟩ := bw gR cr; rw [h]; kernel_rfl)
theorem CD (op : aj) (aP : ag) (v : bp) (h w N i m s : Int) (n : Nat) {R : Type} (k : AEx -> LSt -> Option R) : lp gR cr iQ (n + 1) (G7 op aP v h w N i m s) k = bif decide (i < N) then (idx v.2.2.2.2.1 0).bind fun v1 => (v.2.2.2.2.1[0]?).bind fun v2 => (if v.2.2.2.1 = 0 then none else some (i64.wrap (i.tdiv v.2.2.2.1))).bind fun v3 => (idx v.2.2.2.2.2.1 0).bind fun v4 => (v.2.2.2.2.2.1[0]?).bind fun v5 => (idx v.2.2.2.2.1 1).bind fun v6 => (v.2.2.2.2.1[1]?).bind fun v7 => (if v.2.2.2.1 = 0 then none else some (i.tmod v.2.2.2.1)).bind fun v8 => (idx v.2.2.2.2.2.1 1).bind fun v9 => (v.2.2.2.2.2.1[1]?).bind fun v10 => bif decide (i64.wrap (i64.wrap (i64.wrap (h * v2) - v.2.2.2.2.2.2.1) + i64.wrap (v3 * v5)) < 0) then lp gR cr iQ n (G7 op aP v h w N (i64.wrap (i + 1)) m s) k else bif decide (i64.wrap (i64.wrap (i64.wrap (h * v2) - v.2.2.2.2.2.2.1) + i64.wrap (v3 * v5)) >= v.1) then lp gR cr iQ n (G7 op aP v h w N (i64.wrap (i + 1)) m s) k else bif decide (i64.wrap (i64.wrap (i64.wrap (w * v7) - v.2.2.2.2.2.2.2.1) + i64.wrap (v8 * v10)) < 0) then lp gR cr iQ n (G7 op aP v h w N (i64.wrap (i + 1)) m s) k else bif decide (i64.wrap (i64.wrap (i64.wrap (w * v7) - v.2.2.2.2.2.2.2.1) + i64.wrap (v8 * v10)) >= v.2.1) then lp gR cr iQ n (G7 op aP v h w N (i64.wrap (i + 1)) m s) k else (idx aP (i64.wrap (i64.wrap (i64.wrap (i64.wrap (i64.wrap (h * v2) - v.2.2.2.2.2.2.1) + i64.wrap (v3 * v5)) * v.2.1) + i64.wrap (i64.wrap (i64.wrap (w * v7) - v.2.2.2.2.2.2.2.1) + i64.wrap (v8 * v10))))).bind fun rp => bif !op == rC then lp gR cr iQ n (G7 op aP v h w N (i64.wrap (i + 1)) (i64.wrap (m + 1)) (js BinOp.add s rp)) k else bif m == 0 then lp gR cr iQ n (G7 op aP v h w N (i64.wrap (i + 1)) (i64.wrap (m + 1)) rp) k else lp gR cr iQ n (G7 op aP v h w N (i64.wrap (i + 1)) (i64.wrap (m + 1)) (JA s rp)) k else k (AEx.exit 0) { fr := aw 7 [(0, AV.ref 7), (1, AV.op 6 [] 0), (2, AV.op 5 [] 0), (3, AV.op 4 [] 0), (12, I N), (13, I i), (14, B false)], hp := [(0, al.box (I s)), (1, al.box (I m)), (2, al.box (AV.d (af).slice aP)), (3, al.box (AV.d Ty.str op)), (4, al.box (I w)), (5, al.box (I h)), (6, al.box (AV.d Y4 v)), (7, al.rc (gy.loop zm [(0, AV.d Ty.str op), (1, AV.d (af).slice aP), (2, AV.fn (Fn.func 110) [] [AV.op 6 [] 0, AV.op 5 [] 0, AV.op 4 [] 0]), (3, AV.op 3 [] 0), (4, AV.op 2 [] 0), (7, AV.op 1 [] 0), (8, AV.op 0 [] 0)] xx.ready))], nx := 16 } := by kernel_rfl
def oI : aj := rC
def Db (v : bp) (h : Int) (i : Nat) : Int := i64.wrap (i64.wrap (i64.wrap (h * v.2.2.2.2.1.getD 0 0) - v.2.2.2.2.2.2.1) + i64.wrap (i64.wrap ((i : Int).tdiv v.2.2.2.1) * v.2.2.2.2.2.1.getD 0 0))
def Dc (v : bp) (w : Int) (i : Nat) : Int := i64.wrap (i64.wrap (i64.wrap (w * v.2.2.2.2.1.getD 1 0) - v.2.2.2.2.2.2.2.1) + i64.wrap ((i : Int).tmod v.2.2.2.1 * v.2.2.2.2.2.1.getD 1 0))
def rL (v : bp) (h w : Int) (i : Nat) : Bool := !decide (Db v h i < 0) && (!decide (Db v h i >= v.1) && (!decide (Dc v w i < 0) && !decide (Dc v w i >= v.2.1)))
def mU (v : bp) (h w : Int) (i : Nat) : Int := i64.wrap (i64.wrap (Db v h i * v.2.1) + Dc v w i)
structure mV (v : bp) (n : Nat) : Prop where
 ss : v.2.2.2.2.1.length = 2
 ds : v.2.2.2.2.2.1.length = 2
 hh : 0 <= v.1 /\ v.1 <= 65536
 ww : 0 <= v.2.1 /\ v.2.1 <= 65536
 kh : 0 <= v.2.2.1 /\ v.2.2.1 <= 65536
 kw : 0 <= v.2.2.2.1 /\ v.2.2.2.1 <= 65536
 aP : v.1 * v.2.1 <= (n : Int)
theorem sq {v : bp} {n : Nat} (hv : mV v n) {h w : Int} {i : Nat} (hi : rL v h w i = true) : 0 <= mU v h w i /\ mU v h w i < (n : Int) := by
 unfold rL at hi
 simp only [bg, Bool.not_eq_true', decide_eq_false_iff_not] at hi
 obtain ⟨h1, h2, h3, h4⟩ := hi
 obtain ⟨_, _, ⟨a1, a2⟩, ⟨b1, b2⟩, _, _, hp⟩ := hv
 unfold mU
 generalize Db v h i = y at *
 generalize Dc v w i = x at *
 generalize v.1 = H at *
 generalize v.2.1 = W at *
 have c1 : 0 <= y * W := Int.mul_nonneg (by omega) b1
 have c2 : (y + 1) * W <= H * W := Int.mul_le_mul_of_nonneg_right (by omega) b1
 have c3 : H * W <= 65536 * 65536 := Int.mul_le_mul a2 b2 b1 (by omega)
 have c4 : (y + 1) * W = y * W + W := by rw [Int.add_mul, Int.one_mul]
 have e1 : i64.wrap (y * W) = y * W := aJ (by omega) (by omega)
 rw [e1, aJ (by omega) (by omega)]
 omega
def W0 (op : aj) (aP : ag) (v : bp) (h w : Int) (p : Int × Int) (i : Nat) : Int × Int :=
 bif rL v h w i then (i64.wrap (p.1 + 1), bif !op == oI then js .add p.2 (aP.getD (mU v h w i).toNat 0) else bif p.1 == 0 then aP.getD (mU v h w i).toNat 0 else JA p.2 (aP.getD (mU v h w i).toNat 0)) else p
def W1 (op : aj) (aP : ag) (v : bp) (h w : Int) : Int × Int := (List.range (v.2.2.1 * v.2.2.2.1).toNat).foldl (W0 op aP v h w) (0, 0)
noncomputable def JC : FnE := au gR f110 7 [(1, [0, 1, 2, 3, 12, 13])]
theorem Vh : bE 110 JC := bS G5 func110 call110
noncomputable def G8 : AEx -> LSt -> Option (aq × LHp) := aW 0 (bA prog 8 f110.results.toList ah)
theorem aca (op : aj) (aP : ag) (v : bp) (h w m s : Int) : aC gR f110 7 [(1, [0, 1, 2, 3, 12, 13])] [.ref 7, .op 6 [] 0, .op 5 [] 0, .op 4 [] 0] (G6 op aP v h w m s) ah = lp gR cr iQ fu (G7 op aP v h w (i64.wrap (v.2.2.1 * v.2.2.2.1)) 0 m s) G8 := (ab9 op aP v h w m s).trans (by kernel_rfl)
theorem OF (op : aj) (aP : ag) (v : bp) (h w N i m s : Int) : G8 (AEx.exit 0) ⟨aw 7 [(0, .ref 7), (1, .op 6 [] 0), (2, .op 5 [] 0), (3, .op 4 [] 0), (12, I N), (13, I i), (14, B false)], G6 op aP v h w m s, 16⟩ = some (.ret [], G6 op aP v h w m s) := by kernel_rfl
theorem Vi {op : aj} {aP : ag} {v : bp} {h w : Int} (hv : mV v aP.length) :
  aC gR f110 7 [(1, [0, 1, 2, 3, 12, 13])] [.ref 7, .op 6 [] 0, .op 5 [] 0, .op 4 [] 0] (G6 op aP v h w 0 0) ah = some (.ret [], G6 op aP v h w (W1 op aP v h w).1 (W1 op aP v h w).2) := by
 have hm : maxLen = 9223372036854775807 := by decide
 have hb : v.2.2.1 * v.2.2.2.1 <= 65536 * 65536 := Int.mul_le_mul hv.kh.2 hv.kw.2 hv.kw.1 (by omega)
 have PD : 0 <= v.2.2.1 * v.2.2.2.1 := Int.mul_nonneg hv.kh.1 hv.kw.1
 have e : i64.wrap (v.2.2.1 * v.2.2.2.1) = (((v.2.2.1 * v.2.2.2.1).toNat : Nat) : Int) := by rw [aJ (by omega) (by omega)]; omega
 rw [aca, e]
 have sc : ∀ (l : List Nat) (p : Int × Int), cm (fun (p : Int × Int) (i : Nat) => Nx.go (R := aq × LHp) (W0 op aP v h w p i)) (fun p => some (.ret [], G6 op aP v h w p.1 p.2)) l p = some (.ret [], G6 op aP v h w (l.foldl (W0 op aP v h w) p).1 (l.foldl (W0 op aP v h w) p).2) := by
  intro l
  induction l with
  | nil => intro p; rfl
  | cons i l ih => intro p; exact ih _
 refine (iE (N := (v.2.2.1 * v.2.2.2.1).toNat) (T := fun n s => lp gR cr iQ n s G8) (st := fun (i : Int) (p : Int × Int) => G7 op aP v h w (((v.2.2.1 * v.2.2.2.1).toNat : Nat) : Int) i p.1 p.2) (f := fun (p : Int × Int) (i : Nat) => Nx.go (W0 op aP v h w p i)) (fin := fun (p : Int × Int) => some (.ret [], G6 op aP v h w p.1 p.2)) (fun (_ : Nat) (_ : Int × Int) => True) (by omega) ?_ ?_ (a := (0, 0)) trivial).trans (sc _ _)
 ·rintro i ⟨m, s⟩ n _ hi hw hd
  refine .inl ⟨_, rfl, trivial, ?_⟩
  have hkw : v.2.2.2.1 ≠ 0 := fun h0 => by rw [h0, Int.mul_zero] at hi; simp at hi
  have s0 : idx v.2.2.2.2.1 0 = some (v.2.2.2.2.1.getD 0 0) := aK (i := 0) (by rw [hv.ss]; omega)
  have s1 : idx v.2.2.2.2.1 1 = some (v.2.2.2.2.1.getD 1 0) := aK (i := 1) (by rw [hv.ss]; omega)
  have d0 : idx v.2.2.2.2.2.1 0 = some (v.2.2.2.2.2.1.getD 0 0) := aK (i := 0) (by rw [hv.ds]; omega)
  have d1 : idx v.2.2.2.2.2.1 1 = some (v.2.2.2.2.2.1.getD 1 0) := aK (i := 1) (by rw [hv.ds]; omega)
  have q : ∀ (l : ag) (j : Nat), j < l.length -> l[j]? = some (l.getD j 0) := fun l j hj => by rw [List.getD_eq_getElem?_getD, List.getElem?_eq_getElem hj]; rfl
  have s0' := q v.2.2.2.2.1 0 (by rw [hv.ss]; omega)
  have s1' := q v.2.2.2.2.1 1 (by rw [hv.ss]; omega)
  have d0' := q v.2.2.2.2.2.1 0 (by rw [hv.ds]; omega)
  have d1' := q v.2.2.2.2.2.1 1 (by rw [hv.ds]; omega)
  have hs := CD op aP v h w (((v.2.2.1 * v.2.2.2.1).toNat : Nat) : Int) (i : Int) m s n G8
  have ey : i64.wrap (i64.wrap (i64.wrap (h * v.2.2.2.2.1.getD 0 0) - v.2.2.2.2.2.2.1) + i64.wrap (i64.wrap ((i : Int).tdiv v.2.2.2.1) * v.2.2.2.2.2.1.getD 0 0)) = Db v h i := rfl
  have ex : i64.wrap (i64.wrap (i64.wrap (w * v.2.2.2.2.1.getD 1 0) - v.2.2.2.2.2.2.2.1) + i64.wrap ((i : Int).tmod v.2.2.2.1 * v.2.2.2.2.2.1.getD 1 0)) = Dc v w i := rfl
  have ea : i64.wrap (i64.wrap (Db v h i * v.2.1) + Dc v w i) = mU v h w i := rfl
  have rQ : decide ((i : Int) < (((v.2.2.1 * v.2.2.2.1).toNat : Nat) : Int)) = true := hd
  rw [rQ, ak, s0, aA, s0', aA, if_neg hkw, aA, d0, aA, d0', aA, s1, aA, s1', aA, if_neg hkw, aA, d1, aA, d1', aA, ey, ex, ea, hw] at hs
  have et : W0 op aP v h w (m, s) i = bif rL v h w i then (i64.wrap (m + 1), bif !op == oI then js .add s (aP.getD (mU v h w i).toNat 0) else bif m == 0 then aP.getD (mU v h w i).toNat 0 else JA s (aP.getD (mU v h w i).toNat 0)) else (m, s) := rfl
  have ei : rL v h w i = (!decide (Db v h i < 0) && (!decide (Db v h i >= v.1) && (!decide (Dc v w i < 0) && !decide (Dc v w i >= v.2.1)))) := rfl
  have xu : rL v h w i = true -> idx aP (mU v h w i) = some (aP.getD (mU v h w i).toNat 0) := fun hq => yQ (sq hv hq).1 (sq hv hq).2
  show lp gR cr iQ (n + 1) (G7 op aP v h w (((v.2.2.1 * v.2.2.2.1).toNat : Nat) : Int) (i : Int) m s) G8 = lp gR cr iQ n (G7 op aP v h w (((v.2.2.1 * v.2.2.2.1).toNat : Nat) : Int) ((i + 1 : Nat) : Int) (W0 op aP v h w (m, s) i).1 (W0 op aP v h w (m, s) i).2) G8
  refine hs.trans ?_
  rw [et]
  cases c1 : decide (Db v h i < 0) with
  | true => rw [c1] at ei; rw [ei]; rfl
  | false =>
   rw [c1] at ei
   rw [ax]
   cases c2 : decide (Db v h i >= v.1) with
   | true => rw [c2] at ei; rw [ei]; rfl
   | false =>
    rw [c2] at ei
    rw [ax]
    cases c3 : decide (Dc v w i < 0) with
    | true => rw [c3] at ei; rw [ei]; rfl
    | false =>
     rw [c3] at ei
     rw [ax]
     cases c4 : decide (Dc v w i >= v.2.1) with
     | true => rw [c4] at ei; rw [ei]; rfl
     | false =>
      rw [c4] at ei
      have ei : rL v h w i = true := ei
      rw [ax, xu ei, aA, ei, ak]
      have eo : (rC : aj) = oI := rfl
      rw [eo]
      cases !op == oI with
      | true => rfl
      | false =>
       rw [ax, ax]
       cases m == 0 <;> rfl
 ·rintro ⟨m, s⟩ n _ hd
  have rQ : decide ((((v.2.2.1 * v.2.2.2.1).toNat : Nat) : Int) < (((v.2.2.1 * v.2.2.2.1).toNat : Nat) : Int)) = false := hd
  show lp gR cr iQ (n + 1) (G7 op aP v h w (((v.2.2.1 * v.2.2.2.1).toNat : Nat) : Int) (((v.2.2.1 * v.2.2.2.1).toNat : Nat) : Int) m s) G8 = _
  rw [CD, rQ, ax]
  exact OF _ _ _ _ _ _ _ _ _
theorem OG {E : Env} (hE : E.Good) {fn : Func} {depth : Nat} {live : List (Nat × List Nat)} {args : List AV} {hs aF : LHp} {ae : aq} (h : aC E fn depth live args hs ah = some (ae, aF)) {R : Type} (k : aq -> LHp -> Option R) : aC E fn depth live args hs k = k ae aF := by
 rw [r7 hE] at h ⊢
 cases hx : tK E fn depth live args hs with
 | none => rw [hx] at h; cases h
 | some p => rw [hx] at h; cases h; rfl
theorem Vj (args : List AV) (hs : LHp) {R : Type} (k : aq -> LHp -> Option R) : JC.run args hs k = aC gR f110 7 [(1, [0, 1, 2, 3, 12, 13])] args hs k := rfl
theorem OH {op : aj} {aP : ag} {v : bp} {h w : Int} (hv : mV v aP.length) {R : Type} (k : aq -> LHp -> Option R) :
  JC.run [.ref 7, .op 6 [] 0, .op 5 [] 0, .op 4 [] 0] (G6 op aP v h w 0 0) k = k (.ret []) (G6 op aP v h w (W1 op aP v h w).1 (W1 op aP v h w).2) :=
 (Vj _ _ k).trans (OG G5 (Vi hv) k)
noncomputable def agG (op : aj) (aP : ag) : List (Nat × AV) := kG ⟨frT op aP, [], 0⟩ (jM j2 zm.assign)
noncomputable def JD (op : aj) (aP : ag) (v : bp) (h w : Int) : LHp := (7, .rc (.loop zm (agG op aP) .ready)) :: ab8 op aP v h w
theorem acb (F : FnE) (op : aj) (aP : ag) (v : bp) (h w : Int) (k : AEx -> LSt -> Option (aq × LHp)) : exC (gT F) j2 Vg ⟨frT op aP, ab8 op aP v h w, 7⟩ k =
  F.run [.ref 7, .op 6 [] 0, .op 5 [] 0, .op 4 [] 0] (G6 op aP v h w 0 0) (FZ [6, 5, 4, 3, 0, 1, 2, 7] (JD op aP v h w) 8 (rfK (frT op aP) (JD op aP v h w) 7 k) (rfP (frT op aP) (JD op aP v h w) 7 k)) := by kernel_rfl
noncomputable def GK0 (F : FnE) : AEx -> LSt -> Option (aq × LHp) := aW 0 (Sl (gT F) j2 (rfp (gT F) j2) (cR (cR (cR OB))) (bA prog 3 f65.results.toList ah))
theorem Vk (F : FnE) (op : aj) (aP : ag) (v : bp) (h w : Int) : aC (gT F) f65 6 [(3, [0, 1, 2, 3, 4, 7, 8, 9, 14, 15, 16, 17, 18, 20, 21, 22, 23, 24, 26, 27, 28, 29, 30, 32, 33, 34])] [.d .str op, .d (.slice af) aP, OE] (hpW v h w) ah = exC (gT F) j2 Vg ⟨frT op aP, ab8 op aP v h w, 7⟩ (GK0 F) := (ab6 F op aP v h w).trans (by kernel_rfl)
theorem Vl (F : FnE) (op : aj) (aP : ag) (v : bp) (h w m s : Int) : FZ [6, 5, 4, 3, 0, 1, 2, 7] (JD op aP v h w) 8 (rfK (frT op aP) (JD op aP v h w) 7 (GK0 F)) (rfP (frT op aP) (JD op aP v h w) 7 (GK0 F)) (.ret []) (G6 op aP v h w m s) = bif op == rC then some (aq.ret [I s], [(0, al.box (I w)), (1, al.box (I h)), (2, al.box (AV.d Y4 v))]) else bif (FloatKind.f32.format.read (aI FloatKind.f32 (FloatKind.f32.nearest m))).order (FloatKind.f32.format.read (aI FloatKind.f32 (FloatKind.f32.nearest m))) != some Ordering.eq then some (aq.ret [I (js BinOp.quo s 2143289344)], [(0, al.box (I w)), (1, al.box (I h)), (2, al.box (AV.d Y4 v))]) else bif l6 FloatKind.f32 (aI FloatKind.f32 (FloatKind.f32.nearest m)) then none else some (aq.ret [I (js BinOp.quo s (i64.wrap (Int.ofNat (aI FloatKind.f32 (FloatKind.f32.nearest m)))))], [(0, al.box (I w)), (1, al.box (I h)), (2, al.box (AV.d Y4 v))]) := by kernel_rfl
def W2 (m : Int) : Int := OA (aI .f32 (FloatKind.f32.nearest m))
def Vn (op : aj) (aP : ag) (v : bp) (h w : Int) : Int := bif op == oI then (W1 op aP v h w).2 else js .quo (W1 op aP v h w).2 (W2 (W1 op aP v h w).1)
theorem Vo {op : aj} {aP : ag} {v : bp} {h w : Int} (hv : mV v aP.length) :
  aC (gT JC) f65 6 [(3, [0, 1, 2, 3, 4, 7, 8, 9, 14, 15, 16, 17, 18, 20, 21, 22, 23, 24, 26, 27, 28, 29, 30, 32, 33, 34])] [.d .str op, .d (.slice af) aP, OE] (hpW v h w) ah = some (.ret [I (Vn op aP v h w)], hpW v h w) := by
 rw [Vk, acb, OH hv, Vl]
 unfold Vn
 have eo : (rC : aj) = oI := rfl
 rw [eo]
 cases op == oI with
 | true => rfl
 | false =>
  rw [ax, ax, lT]
  unfold W2 OA l6
  cases (FloatKind.f32.format.read (aI FloatKind.f32 (FloatKind.f32.nearest (W1 op aP v h w).1))).isNaN <;> rfl
def rM (v : bp) (n : Nat) : Bool := decide (v.2.2.2.2.1.length = 2 /\ v.2.2.2.2.2.1.length = 2) && (decide (0 <= v.1 /\ v.1 <= 65536) && (decide (0 <= v.2.1 /\ v.2.1 <= 65536) && (decide (0 <= v.2.2.1 /\ v.2.2.1 <= 65536) && (decide (0 <= v.2.2.2.1 /\ v.2.2.2.1 <= 65536) && decide (v.1 * v.2.1 <= (n : Int))))))
theorem sr {v : bp} {n : Nat} (h : rM v n = true) : mV v n := by
 unfold rM at h
 simp only [bg, decide_eq_true_eq] at h
 exact ⟨h.1.1, h.1.2, h.2.1, h.2.2.1, h.2.2.2.1, h.2.2.2.2.1, h.2.2.2.2.2⟩
def acd : List AV -> LHp -> Tq
 | [.d .str op, .d zS aP, .fn (.func 110) [] [.op 2 [] 0, .op 1 [] 0, .op 0 [] 0]], [(0, .box (.d zI w)), (1, .box (.d zI h)), (2, .box (.d Y4 v))] =>
  .br (rM v aP.length) (.leaf (.ret [I (Vn op aP v h w)]) (hpW v h w)) .no
 | _, _ => .no
theorem Vp : bE 65 (ao acd) := by
 have hg : (gT JC).Good := (lb.add sn).add Vh
 have h1 : bE 65 (au (gT JC) f65 6 [(3, [0, 1, 2, 3, 4, 7, 8, 9, 14, 15, 16, 17, 18, 20, 21, 22, 23, 24, 26, 27, 28, 29, 30, 32, 33, 34])]) := bS hg func65 call65
 refine aO fun args hs ae aF h' => ?_
 unfold acd at h'
 split at h'
 ·obtain ⟨hb, h2⟩ := Tq.br_no h'
  cases h2
  exact h1.okC (Vo (sr hb))
 ·cases h'
noncomputable def agH : Env := sa.add 25 uC
theorem JE : agH.Good := dR.add iF
theorem ace (op nm : aj) (ins : List (aj)) (out : aj) (aa : bk) (name : aj) : aC agH f66 5 [] [dh op nm ins out aa, .d .str name] [] ah = bif aD aa then (idx (ai aa name [1, 1]) 0).bind fun v1 => (idx (ai aa name [1, 1]) 1).bind fun v2 => ay [AV.d (Ty.arr 2 (af)) [v1, v2]] else none := by kernel_rfl
noncomputable def uX : Code := bD f26
noncomputable def rN : Code := cL (cL (cR (cL (cR (cR uX)))))
noncomputable def pW : Code := cL (cL (cR (cR (cR (cL (cL (cR (cR (cL (cL (cR (cL (cR (cR uX))))))))))))))
noncomputable def acf : Code := cR (cR (cR (cL (cL (cR (cL (cR (cR uX))))))))
noncomputable def uY : Code := cL (cL (cR (cR (cL (cL (cR (cR (cL (cL (cR (cR (cR (cL (cL (cR (cR (cL (cL (cR (cL (cR (cR uX))))))))))))))))))))))
noncomputable def acg : Code := cR (cR (cR (cL (cL (cR (cR (cR (cL (cL (cR (cR (cL (cL (cR (cL (cR (cR uX)))))))))))))))))
noncomputable def aQ : Cfg := ⟨56, 6, 0, [(3, [3, 4, 5, 6, 9, 15, 16]), (7, [3, 4, 5, 6, 9, 11, 15, 16, 31, 32]), (10, [3, 4, 5, 6, 9, 11, 12, 15, 16, 31, 32, 37, 38])], true⟩
def prL (aa : bk) (name : aj) : ag := [(ai aa name [1, 1]).getD 0 0, (ai aa name [1, 1]).getD 1 0]
def aci : List AV -> LHp -> Tq
 | [.d Y2 (_, _, _, _, aa, _), .d .str name], [] => .br (aD aa && decide (2 <= (ai aa name [1, 1]).length)) (.leaf (.ret [.d (.arr 2 af) (prL aa name)]) []) .no
 | _, _ => .no
theorem Vq : bE 66 (ao aci) := by
 have h1 := bS (d := 5) (l := []) JE func66 call66
 refine aO fun args hs ae aF h' => ?_
 unfold aci at h'
 split at h'
 ·rename_i op nm ins out aa _ name
  obtain ⟨hb, h2⟩ := Tq.br_no h'
  rw [bg] at hb
  have hl : 2 <= (ai aa name [1, 1]).length := aZ hb.2
  refine h1.okC ((ace op nm ins out aa name).trans (Eq.trans ?_ h2))
  have g0 : idx (ai aa name [1, 1]) 0 = some ((ai aa name [1, 1]).getD 0 0) := aK (i := 0) (by omega)
  have g1 : idx (ai aa name [1, 1]) 1 = some ((ai aa name [1, 1]).getD 1 0) := aK (i := 1) (by omega)
  rw [hb.1, ak, g0, aA, g1, aA]
  rfl
 ·cases h'
noncomputable def agI : Env := (sa.add 25 uC).add 66 (ao aci)
theorem JF : agI.Good := (dR.add iF).add Vq
theorem acj (op nm : aj) (ins : List (aj)) (out : aj) (aa : bk) (xs : ag) (kh kw : Int) : aC agI f27 6 [] [dh op nm ins out aa, .d (.slice af) xs, I kh, I kw] [] ah = bif aD aa then (idx xs 2).bind fun v1 => (idx xs 3).bind fun v2 => bif aD aa && decide (2 <= (ai aa gq [1, 1]).length) then bif aD aa && decide (2 <= (ai aa gr [1, 1]).length) then (idx (ai aa cW [0, 0, 0, 0]) 0).bind fun v5 => (idx (ai aa cW [0, 0, 0, 0]) 1).bind fun v6 => (idx xs 0).bind fun v7 => (idx xs 1).bind fun v8 => (idx xs 2).bind fun v9 => (idx xs 3).bind fun v10 => ay [AV.d Y4 (v1, v2, kh, kw, [(ai aa gq [1, 1]).getD 0 0, (ai aa gq [1, 1]).getD 1 0], [(ai aa gr [1, 1]).getD 0 0, (ai aa gr [1, 1]).getD 1 0], v5, v6, i64.wrap (v7 * v8), i64.wrap (v9 * v10), PUnit.unit)] else none else none else none := by kernel_rfl
noncomputable def cb : Env := Sf.add 65 (ao acd)
theorem JG : cb.Good := lb.add Vp
def CE (x : dL) (t : (Y0).den) (v : bp) : LHp := [(0, .box (.d (Y2) x)), (1, .box (.d (Y0) t)), (2, .box (.d (Y4) v))]
def CF (x : dL) (t : (Y0).den) (v : bp) (ds : ag) (i : Int) : LSt := { fr := aw 6 [(3, .d (.slice af) ds), (4, AV.op 0 [] 0), (5, AV.op 1 [] 0), (6, AV.op 2 [] 0), (9, AV.nils), (15, I v.2.2.2.2.2.2.2.2.1), (16, I i)], hp := CE x t v, nx := 3 }
theorem ack (x : dL) (t : (Y0).den) (v : bp) (ds : ag) : aC cb f26 6 [(3, [3, 4, 5, 6, 9, 15, 16]), (7, [3, 4, 5, 6, 9, 11, 15, 16, 31, 32]), (10, [3, 4, 5, 6, 9, 11, 12, 15, 16, 31, 32, 37, 38])] [.d (Y2) x, .d (Y0) t, OD v, .d (.slice af) ds] [] ah = (hlp cb aQ) rN _ (CF x t v ds 0) (aW 0 (bt cb aQ [3, 7, 10] (hlp cb aQ) (cR (cR (cR uX))) (bA prog 0 f26.results.toList ah))) := (bI [3, 7, 10] aQ rfl).trans (by obtain ⟨hl, h⟩ := bw cb aQ; rw [h]; kernel_rfl)
def G9 (o : ag) (x : dL) (t : (Y0).den) (v : bp) (ds : ag) (i : Int) : LSt := { fr := aw 6 [(3, .d (.slice af) ds), (4, AV.op 0 [] 0), (5, AV.op 1 [] 0), (6, AV.op 2 [] 0), (9, AV.os 3 0), (15, I v.2.2.2.2.2.2.2.2.1), (16, I i)], hp := CE x t v ++ [(3, .arr 2 af 0 false o)], nx := 4 }
theorem OI (x : dL) (t : (Y0).den) (v : bp) (ds : ag) (i : Int) (n : Nat) {R : Type} (k : AEx -> LSt -> Option R) : lp cb aQ rN (n + 1) (CF x t v ds i) k = bif decide (i < v.2.2.2.2.2.2.2.2.1) then (if 0 <= i64.wrap (i * v.2.2.2.2.2.2.2.2.2.1) /\ i64.wrap (i * v.2.2.2.2.2.2.2.2.2.1) <= Int.ofNat (List.length t.2.2.1) /\ Int.ofNat (List.length t.2.2.1) <= Int.ofNat (List.length t.2.2.1) then some (List.drop (i64.wrap (i * v.2.2.2.2.2.2.2.2.2.1)).toNat (List.take (Int.ofNat (List.length t.2.2.1)).toNat t.2.2.1)) else none).bind fun v1 => (if (0 : Int) <= 0 /\ 0 <= v.2.2.2.2.2.2.2.2.2.1 /\ v.2.2.2.2.2.2.2.2.2.1 <= Int.ofNat v1.length then some (List.drop 0 (List.take v.2.2.2.2.2.2.2.2.2.1.toNat v1)) else none).bind fun v2 => (idx ds 2).bind fun v3 => (hlp cb aQ) pW _ { fr := aw 6 [(3, AV.d (af).slice ds), (4, AV.op 0 [] 0), (5, AV.op 1 [] 0), (6, AV.op 2 [] 0), (9, AV.nils), (11, AV.d (af).slice v2), (15, I v.2.2.2.2.2.2.2.2.1), (16, I i), (31, I v3), (32, I 0)], hp := [(0, al.box (AV.d Y2 x)), (1, al.box (AV.d Y0 t)), (2, al.box (AV.d Y4 v))], nx := 3 } (aW 2 (aW 1 (bt cb aQ [3, 7, 10] (hlp cb aQ) acf (rB cb aQ [3, 7, 10] (hlp cb aQ) rN n k)))) else k (AEx.exit 0) { fr := aw 6 [(3, AV.d (af).slice ds), (4, AV.op 0 [] 0), (5, AV.op 1 [] 0), (6, AV.op 2 [] 0), (9, AV.nils), (15, I v.2.2.2.2.2.2.2.2.1), (16, I i), (17, B false)], hp := [(0, al.box (AV.d Y2 x)), (1, al.box (AV.d Y0 t)), (2, al.box (AV.d Y4 v))], nx := 3 } := by
 rw [qx [3, 7, 10]]
 obtain ⟨hl, h⟩ := bw cb aQ
 rw [h]
 kernel_rfl
theorem OJ (a : Int) (o : ag) (x : dL) (t : (Y0).den) (v : bp) (ds : ag) (i : Int) (n : Nat) {R : Type} (k : AEx -> LSt -> Option R) : lp cb aQ rN (n + 1) (G9 (a :: o) x t v ds i) k = bif decide (i < v.2.2.2.2.2.2.2.2.1) then (if 0 <= i64.wrap (i * v.2.2.2.2.2.2.2.2.2.1) /\ i64.wrap (i * v.2.2.2.2.2.2.2.2.2.1) <= Int.ofNat (List.length t.2.2.1) /\ Int.ofNat (List.length t.2.2.1) <= Int.ofNat (List.length t.2.2.1) then some (List.drop (i64.wrap (i * v.2.2.2.2.2.2.2.2.2.1)).toNat (List.take (Int.ofNat (List.length t.2.2.1)).toNat t.2.2.1)) else none).bind fun v1 => (if (0 : Int) <= 0 /\ 0 <= v.2.2.2.2.2.2.2.2.2.1 /\ v.2.2.2.2.2.2.2.2.2.1 <= Int.ofNat v1.length then some (List.drop 0 (List.take v.2.2.2.2.2.2.2.2.2.1.toNat v1)) else none).bind fun v2 => (idx ds 2).bind fun v3 => (hlp cb aQ) pW _ { fr := aw 6 [(3, AV.d (af).slice ds), (4, AV.op 0 [] 0), (5, AV.op 1 [] 0), (6, AV.op 2 [] 0), (9, AV.os 3 0), (11, AV.d (af).slice v2), (15, I v.2.2.2.2.2.2.2.2.1), (16, I i), (31, I v3), (32, I 0)], hp := [(0, al.box (AV.d Y2 x)), (1, al.box (AV.d Y0 t)), (2, al.box (AV.d Y4 v)), (3, al.arr 2 (af) 0 false (a :: o))], nx := 4 } (aW 2 (aW 1 (bt cb aQ [3, 7, 10] (hlp cb aQ) acf (rB cb aQ [3, 7, 10] (hlp cb aQ) rN n k)))) else k (AEx.exit 0) { fr := aw 6 [(3, AV.d (af).slice ds), (4, AV.op 0 [] 0), (5, AV.op 1 [] 0), (6, AV.op 2 [] 0), (9, AV.os 3 0), (15, I v.2.2.2.2.2.2.2.2.1), (16, I i), (17, B false)], hp := [(0, al.box (AV.d Y2 x)), (1, al.box (AV.d Y0 t)), (2, al.box (AV.d Y4 v)), (3, al.arr 2 (af) 0 false (a :: o))], nx := 4 } := by
 rw [qx [3, 7, 10]]
 obtain ⟨hl, h⟩ := bw cb aQ
 rw [h]
 kernel_rfl
def lU : aj := gq
def lV : aj := gr
def kc (aa : bk) (xs : ag) (kh kw : Int) : bp := (xs.getD 2 0, xs.getD 3 0, kh, kw, prL aa lU, prL aa lV, (ai aa cQ [0, 0, 0, 0]).getD 0 0, (ai aa cQ [0, 0, 0, 0]).getD 1 0, i64.wrap (xs.getD 0 0 * xs.getD 1 0), i64.wrap (xs.getD 2 0 * xs.getD 3 0), ())
def CG (aa : bk) (xs : ag) : Bool := aD aa && (decide (2 <= (ai aa lU [1, 1]).length) && (decide (2 <= (ai aa lV [1, 1]).length) && (decide (2 <= (ai aa cQ [0, 0, 0, 0]).length) && decide (xs.length = 4))))
def acm : List AV -> LHp -> Tq
 | [.d Y2 (_, _, _, _, aa, _), .d zS xs, .d zI kh, .d zI kw], [] => .br (CG aa xs) (.leaf (.ret [.d (Y4) (kc aa xs kh kw)]) []) .no
 | _, _ => .no
theorem Vr : bE 27 (ao acm) := by
 have h1 := bS (d := 6) (l := []) JF func27 call27
 refine aO fun args hs ae aF h' => ?_
 unfold acm at h'
 split at h'
 ·rename_i op nm ins out aa _ xs kh kw
  obtain ⟨hb, h2⟩ := Tq.br_no h'
  unfold CG at hb
  simp only [bg] at hb
  obtain ⟨b1, b2, b3, b4, b5⟩ := hb
  have b4 : 2 <= (ai aa cQ [0, 0, 0, 0]).length := aZ b4
  have b5 : xs.length = 4 := aZ b5
  refine h1.okC ((acj op nm ins out aa xs kh kw).trans (Eq.trans ?_ h2))
  have e1 : (gq : aj) = lU := rfl
  have e2 : (gr : aj) = lV := rfl
  have e3 : (cW : aj) = cQ := rfl
  have x0 : idx xs 0 = some (xs.getD 0 0) := aK (i := 0) (by omega)
  have x1 : idx xs 1 = some (xs.getD 1 0) := aK (i := 1) (by omega)
  have x2 : idx xs 2 = some (xs.getD 2 0) := aK (i := 2) (by omega)
  have x3 : idx xs 3 = some (xs.getD 3 0) := aK (i := 3) (by omega)
  have p0 : idx (ai aa cQ [0, 0, 0, 0]) 0 = some ((ai aa cQ [0, 0, 0, 0]).getD 0 0) := aK (i := 0) (by omega)
  have p1 : idx (ai aa cQ [0, 0, 0, 0]) 1 = some ((ai aa cQ [0, 0, 0, 0]).getD 1 0) := aK (i := 1) (by omega)
  rw [e1, e2, e3, b1, ak, x2, aA, x3, aA, b2, b3, Bool.and_self, ak, ak, p0, aA, p1, aA, x0, aA, x1, aA, aA, aA]
  rfl
 ·cases h'
noncomputable def acn : FnE := cU [(Y2), .slice af, af, af] (ao acm)
theorem Ha : bE 27 acn := bF Vr
def CH (o : ag) (x : dL) (t : (Y0).den) (v : bp) : LHp := CE x t v ++ [(3, .arr 2 af 0 false o)]
def Hb (aP : ag) (x : dL) (t : (Y0).den) (v : bp) (ds : ag) (i H h : Int) : LSt := { fr := aw 6 [(3, .d (.slice af) ds), (4, AV.op 0 [] 0), (5, AV.op 1 [] 0), (6, AV.op 2 [] 0), (9, AV.nils), (11, .d (.slice af) aP), (15, I v.2.2.2.2.2.2.2.2.1), (16, I i), (31, I H), (32, I h)], hp := CE x t v, nx := 3 }
def Hc (o aP : ag) (x : dL) (t : (Y0).den) (v : bp) (ds : ag) (i H h : Int) : LSt := { fr := aw 6 [(3, .d (.slice af) ds), (4, AV.op 0 [] 0), (5, AV.op 1 [] 0), (6, AV.op 2 [] 0), (9, AV.os 3 0), (11, .d (.slice af) aP), (15, I v.2.2.2.2.2.2.2.2.1), (16, I i), (31, I H), (32, I h)], hp := CH o x t v, nx := 4 }
def CI (aP : ag) (x : dL) (t : (Y0).den) (v : bp) (ds : ag) (i H h W w : Int) : LSt := { fr := aw 6 [(3, .d (.slice af) ds), (4, AV.op 0 [] 0), (5, AV.op 1 [] 0), (6, AV.op 2 [] 0), (9, AV.nils), (11, .d (.slice af) aP), (12, I h), (15, I v.2.2.2.2.2.2.2.2.1), (16, I i), (31, I H), (32, I h), (37, I W), (38, I w)], hp := CE x t v, nx := 3 }
def uZ (o aP : ag) (x : dL) (t : (Y0).den) (v : bp) (ds : ag) (i H h W w : Int) : LSt := { fr := aw 6 [(3, .d (.slice af) ds), (4, AV.op 0 [] 0), (5, AV.op 1 [] 0), (6, AV.op 2 [] 0), (9, AV.os 3 0), (11, .d (.slice af) aP), (12, I h), (15, I v.2.2.2.2.2.2.2.2.1), (16, I i), (31, I H), (32, I h), (37, I W), (38, I w)], hp := CH o x t v, nx := 4 }
theorem OL (aP : ag) (x : dL) (t : (Y0).den) (v : bp) (ds : ag) (i H h : Int) (n : Nat) {R : Type} (k : AEx -> LSt -> Option R) : lp cb aQ pW (n + 1) (Hb aP x t v ds i H h) k = bif decide (h < H) then (idx ds 3).bind fun v1 => (hlp cb aQ) uY _ (CI aP x t v ds i H h v1 0) (aW 4 (aW 3 (bt cb aQ [3, 7, 10] (hlp cb aQ) acg (rB cb aQ [3, 7, 10] (hlp cb aQ) pW n k)))) else k (AEx.exit 2) { fr := aw 6 [(3, AV.d (af).slice ds), (4, AV.op 0 [] 0), (5, AV.op 1 [] 0), (6, AV.op 2 [] 0), (9, AV.nils), (11, AV.d (af).slice aP), (15, I v.2.2.2.2.2.2.2.2.1), (16, I i), (31, I H), (32, I h), (33, B false)], hp := [(0, al.box (AV.d Y2 x)), (1, al.box (AV.d Y0 t)), (2, al.box (AV.d Y4 v))], nx := 3 } := by
 rw [qx [3, 7, 10]]
 obtain ⟨hl, h⟩ := bw cb aQ
 rw [h]
 kernel_rfl
theorem OM (a : Int) (o aP : ag) (x : dL) (t : (Y0).den) (v : bp) (ds : ag) (i H h : Int) (n : Nat) {R : Type} (k : AEx -> LSt -> Option R) : lp cb aQ pW (n + 1) (Hc (a :: o) aP x t v ds i H h) k = bif decide (h < H) then (idx ds 3).bind fun v1 => (hlp cb aQ) uY _ (uZ (a :: o) aP x t v ds i H h v1 0) (aW 4 (aW 3 (bt cb aQ [3, 7, 10] (hlp cb aQ) acg (rB cb aQ [3, 7, 10] (hlp cb aQ) pW n k)))) else k (AEx.exit 2) { fr := aw 6 [(3, AV.d (af).slice ds), (4, AV.op 0 [] 0), (5, AV.op 1 [] 0), (6, AV.op 2 [] 0), (9, AV.os 3 0), (11, AV.d (af).slice aP), (15, I v.2.2.2.2.2.2.2.2.1), (16, I i), (31, I H), (32, I h), (33, B false)], hp := [(0, al.box (AV.d Y2 x)), (1, al.box (AV.d Y0 t)), (2, al.box (AV.d Y4 v)), (3, al.arr 2 (af) 0 false (a :: o))], nx := 4 } := by
 rw [qx [3, 7, 10]]
 obtain ⟨hl, h⟩ := bw cb aQ
 rw [h]
 kernel_rfl
theorem ON (aP : ag) (x : dL) (t : (Y0).den) (v : bp) (ds : ag) (i H h W w : Int) (n : Nat) {R : Type} (k : AEx -> LSt -> Option R) : lp cb aQ uY (n + 1) (CI aP x t v ds i H h W w) k = bif decide (w < W) then bif rM v aP.length then lp cb aQ uY n (uZ [Vn x.1 aP v h w] aP x t v ds i H h W (i64.wrap (w + 1))) k else none else k (AEx.exit 4) { fr := aw 6 [(3, AV.d (af).slice ds), (4, AV.op 0 [] 0), (5, AV.op 1 [] 0), (6, AV.op 2 [] 0), (9, AV.nils), (11, AV.d (af).slice aP), (12, I h), (15, I v.2.2.2.2.2.2.2.2.1), (16, I i), (31, I H), (32, I h), (37, I W), (38, I w), (39, B false)], hp := [(0, al.box (AV.d Y2 x)), (1, al.box (AV.d Y0 t)), (2, al.box (AV.d Y4 v))], nx := 3 } := by kernel_rfl
theorem OO (a : Int) (o aP : ag) (x : dL) (t : (Y0).den) (v : bp) (ds : ag) (i H h W w : Int) (n : Nat) {R : Type} (k : AEx -> LSt -> Option R) : lp cb aQ uY (n + 1) (uZ (a :: o) aP x t v ds i H h W w) k = bif decide (w < W) then bif rM v aP.length then (app (a :: o) [Vn x.1 aP v h w]).bind fun v2 => lp cb aQ uY n (uZ v2 aP x t v ds i H h W (i64.wrap (w + 1))) k else none else k (AEx.exit 4) { fr := aw 6 [(3, AV.d (af).slice ds), (4, AV.op 0 [] 0), (5, AV.op 1 [] 0), (6, AV.op 2 [] 0), (9, AV.os 3 0), (11, AV.d (af).slice aP), (12, I h), (15, I v.2.2.2.2.2.2.2.2.1), (16, I i), (31, I H), (32, I h), (37, I W), (38, I w), (39, B false)], hp := [(0, al.box (AV.d Y2 x)), (1, al.box (AV.d Y0 t)), (2, al.box (AV.d Y4 v)), (3, al.arr 2 (af) 0 false (a :: o))], nx := 4 } := by kernel_rfl
theorem Hd {R : Type} (g : Nat -> ag) (fin : List Int -> Option R) : ∀ (l : List Nat) (o : ag), cm (fun (o : ag) (i : Nat) => Nx.go (R := R) (o ++ g i)) fin l o = fin (o ++ l.flatMap g)
 | [], o => by rw [cm, List.flatMap_nil, List.append_nil]
 | a :: l, o => by
  rw [cm]
  simp only
  rw [Hd g fin l, List.flatMap_cons, List.append_assoc]
def poW (op : aj) (aP : ag) (v : bp) (W : Nat) (h : Nat) : ag := (List.range W).flatMap fun (w : Nat) => [Vn op aP v h w]
def OP (op : aj) (aP : ag) (v : bp) (H W : Nat) : ag := (List.range H).flatMap (poW op aP v W)
theorem qI {g : Nat -> ag} {k : Nat} (hg : ∀ i, (g i).length = k) : ∀ (l : List Nat), (l.flatMap g).length = l.length * k
 | [] => by simp
 | a :: l => by rw [List.flatMap_cons, List.length_append, qI hg l, hg, List.length_cons, Nat.succ_mul, Nat.add_comm]
theorem He (op : aj) (aP : ag) (v : bp) (W h : Nat) : (poW op aP v W h).length = W := by
 rw [poW, qI (k := 1) (fun _ => rfl), List.length_range, Nat.mul_one]
theorem zn (op : aj) (aP : ag) (v : bp) (H W : Nat) : (OP op aP v H W).length = H * W := by
 rw [OP, qI (He op aP v W), List.length_range]
def OQ (aP : ag) (x : dL) (t : (Y0).den) (v : bp) (ds : ag) (i H h W : Int) (w : Int) (o : ag) : LSt := match o with
 | [] => CI aP x t v ds i H h W w
 | a :: o => uZ (a :: o) aP x t v ds i H h W w
def EU (aP : ag) (x : dL) (t : (Y0).den) (v : bp) (ds : ag) (i H : Int) (h : Int) (o : ag) : LSt := match o with
 | [] => Hb aP x t v ds i H h
 | a :: o => Hc (a :: o) aP x t v ds i H h
def JH (x : dL) (t : (Y0).den) (v : bp) (ds : ag) (i : Int) (o : ag) : LSt := match o with
 | [] => CF x t v ds i
 | a :: o => G9 (a :: o) x t v ds i
def xPw (aP : ag) (x : dL) (t : (Y0).den) (v : bp) (ds : ag) (i H h W w : Int) (o : ag) : LSt := match o with
 | [] => { fr := aw 6 [(3, .d (.slice af) ds), (4, AV.op 0 [] 0), (5, AV.op 1 [] 0), (6, AV.op 2 [] 0), (9, AV.nils), (11, .d (.slice af) aP), (12, I h), (15, I v.2.2.2.2.2.2.2.2.1), (16, I i), (31, I H), (32, I h), (37, I W), (38, I w), (39, B false)], hp := CE x t v, nx := 3 }
 | a :: o => { fr := aw 6 [(3, .d (.slice af) ds), (4, AV.op 0 [] 0), (5, AV.op 1 [] 0), (6, AV.op 2 [] 0), (9, AV.os 3 0), (11, .d (.slice af) aP), (12, I h), (15, I v.2.2.2.2.2.2.2.2.1), (16, I i), (31, I H), (32, I h), (37, I W), (38, I w), (39, B false)], hp := CH (a :: o) x t v, nx := 4 }
theorem acp {R : Type} {aP : ag} {x : dL} {t : (Y0).den} {v : bp} {ds : ag} {i H h : Int} {W hn : Nat} {k : AEx -> LSt -> Option R} (hh : h = (hn : Int)) (hK : rM v aP.length = true) {o : ag} (hl : o.length + W <= 2147483648) :
  lp cb aQ uY fu (OQ aP x t v ds i H h (W : Int) 0 o) k = k (.exit 4) (xPw aP x t v ds i H h (W : Int) (W : Int) (o ++ poW x.1 aP v W hn)) := by
 have hm : maxLen = 9223372036854775807 := by decide
 subst hh
 refine (iE (N := W) (T := fun n s => lp cb aQ uY n s k) (st := OQ aP x t v ds i H (hn : Int) (W : Int)) (f := fun (o : ag) (w : Nat) => Nx.go (R := R) (o ++ [Vn x.1 aP v hn w])) (fin := fun o => k (.exit 4) (xPw aP x t v ds i H (hn : Int) (W : Int) (W : Int) o)) (fun (w : Nat) (o' : ag) => o'.length = o.length + w) (by omega) ?_ ?_ (a := o) rfl).trans (Hd (fun w => [Vn x.1 aP v hn w]) (fun o => k (.exit 4) (xPw aP x t v ds i H (hn : Int) (W : Int) (W : Int) o)) (List.range W) o)
 ·intro w o' n hI hi hw hd
  refine .inl ⟨_, rfl, by rw [List.length_append, hI]; rfl, ?_⟩
  have hd : decide ((w : Int) < (W : Int)) = true := hd
  cases o' with
  | nil =>
   show lp _ _ _ (n + 1) (CI aP x t v ds i H (hn : Int) (W : Int) (w : Int)) _ = _
   rw [ON, hd, ak, hK, ak, hw]
   rfl
  | cons c r =>
   have lA : (c :: r).length + [Vn x.1 aP v hn w].length <= lim := by rw [hI, List.length_singleton, show lim = 4294967296 from rfl]; omega
   show lp _ _ _ (n + 1) (uZ (c :: r) aP x t v ds i H (hn : Int) (W : Int) (w : Int)) _ = _
   rw [OO, hd, ak, hK, ak, fB lA, aA, hw]
   rfl
 ·intro o' n hI hd
  have hd : decide ((W : Int) < (W : Int)) = false := hd
  cases o' with
  | nil =>
   show lp _ _ _ (n + 1) (CI aP x t v ds i H (hn : Int) (W : Int) (W : Int)) _ = _
   rw [ON, hd, ax]
   rfl
  | cons c r =>
   show lp _ _ _ (n + 1) (uZ (c :: r) aP x t v ds i H (hn : Int) (W : Int) (W : Int)) _ = _
   rw [OO, hd, ax]
   rfl
noncomputable def KPh {R : Type} (n : Nat) (k : AEx -> LSt -> Option R) : AEx -> LSt -> Option R := (aW 4 (aW 3 (bt cb aQ [3, 7, 10] (hlp cb aQ) acg (rB cb aQ [3, 7, 10] (hlp cb aQ) pW n k))))
theorem acq {R : Type} (aP : ag) (x : dL) (t : (Y0).den) (v : bp) (ds : ag) (i H h W w : Int) (o : ag) (n : Nat) (k : AEx -> LSt -> Option R) : KPh n k (.exit 4) (xPw aP x t v ds i H h W w o) = lp cb aQ pW n (EU aP x t v ds i H (i64.wrap (h + 1)) o) k := by
 rw [← mI (ids := [3, 7, 10])]
 cases o with
 | nil => kernel_rfl
 | cons c r => kernel_rfl
theorem acr {R : Type} (aP : ag) (x : dL) (t : (Y0).den) (v : bp) (ds : ag) (i H h W : Int) (o : ag) (k : AEx -> LSt -> Option R) : hlp cb aQ uY R (OQ aP x t v ds i H h W 0 o) k = lp cb aQ uY fu (OQ aP x t v ds i H h W 0 o) k := rfl
def xPh (aP : ag) (x : dL) (t : (Y0).den) (v : bp) (ds : ag) (i H h : Int) (o : ag) : LSt := match o with
 | [] => { fr := aw 6 [(3, .d (.slice af) ds), (4, AV.op 0 [] 0), (5, AV.op 1 [] 0), (6, AV.op 2 [] 0), (9, AV.nils), (11, .d (.slice af) aP), (15, I v.2.2.2.2.2.2.2.2.1), (16, I i), (31, I H), (32, I h), (33, B false)], hp := CE x t v, nx := 3 }
 | a :: o => { fr := aw 6 [(3, .d (.slice af) ds), (4, AV.op 0 [] 0), (5, AV.op 1 [] 0), (6, AV.op 2 [] 0), (9, AV.os 3 0), (11, .d (.slice af) aP), (15, I v.2.2.2.2.2.2.2.2.1), (16, I i), (31, I H), (32, I h), (33, B false)], hp := CH (a :: o) x t v, nx := 4 }
theorem acs {R : Type} {aP : ag} {x : dL} {t : (Y0).den} {v : bp} {ds : ag} {i : Int} {H W : Nat} {k : AEx -> LSt -> Option R} (hK : rM v aP.length = true) (hW : idx ds 3 = some (W : Int)) (hH : H <= 2147483648) {o : ag} (hl : o.length + H * W <= 2147483648) :
  lp cb aQ pW fu (EU aP x t v ds i (H : Int) 0 o) k = k (.exit 2) (xPh aP x t v ds i (H : Int) (H : Int) (o ++ OP x.1 aP v H W)) := by
 have hm : maxLen = 9223372036854775807 := by decide
 refine (iE (N := H) (T := fun n s => lp cb aQ pW n s k) (st := EU aP x t v ds i (H : Int)) (f := fun (o : ag) (h : Nat) => Nx.go (R := R) (o ++ poW x.1 aP v W h)) (fin := fun o => k (.exit 2) (xPh aP x t v ds i (H : Int) (H : Int) o)) (fun (h : Nat) (o' : ag) => o'.length = o.length + h * W) (by omega) ?_ ?_ (a := o) (by rw [Nat.zero_mul, Nat.add_zero])).trans (Hd (poW x.1 aP v W) (fun o => k (.exit 2) (xPh aP x t v ds i (H : Int) (H : Int) o)) (List.range H) o)
 ·intro h o' n hI hi hw hd
  refine .inl ⟨_, rfl, by rw [List.length_append, hI, He, Nat.succ_mul, Nat.add_assoc], ?_⟩
  have hd : decide ((h : Int) < (H : Int)) = true := hd
  have hb : (h + 1) * W <= H * W := Nat.mul_le_mul_right W hi
  have hl3 : o'.length + W <= 2147483648 := by rw [Nat.succ_mul] at hb; omega
  have hq : ∀ s, s = OQ aP x t v ds i (H : Int) (h : Int) (W : Int) 0 o' -> hlp cb aQ uY R s (KPh n k) = lp cb aQ pW n (EU aP x t v ds i (H : Int) ((h + 1 : Nat) : Int) (o' ++ poW x.1 aP v W h)) k := by
   rintro s rfl
   rw [acr, acp rfl hK hl3, acq, hw]
  cases o' with
  | nil =>
   show lp _ _ _ (n + 1) (Hb aP x t v ds i (H : Int) (h : Int)) _ = _
   rw [OL, hd, ak, hW, aA]
   exact hq _ rfl
  | cons c r =>
   show lp _ _ _ (n + 1) (Hc (c :: r) aP x t v ds i (H : Int) (h : Int)) _ = _
   rw [OM, hd, ak, hW, aA]
   exact hq _ rfl
 ·intro o' n hI hd
  have hd : decide ((H : Int) < (H : Int)) = false := hd
  cases o' with
  | nil =>
   show lp _ _ _ (n + 1) (Hb aP x t v ds i (H : Int) (H : Int)) _ = _
   rw [OL, hd, ax]
   rfl
  | cons c r =>
   show lp _ _ _ (n + 1) (Hc (c :: r) aP x t v ds i (H : Int) (H : Int)) _ = _
   rw [OM, hd, ax]
   rfl
noncomputable def KPo {R : Type} (n : Nat) (k : AEx -> LSt -> Option R) : AEx -> LSt -> Option R := (aW 2 (aW 1 (bt cb aQ [3, 7, 10] (hlp cb aQ) acf (rB cb aQ [3, 7, 10] (hlp cb aQ) rN n k))))
theorem acu {R : Type} (aP : ag) (x : dL) (t : (Y0).den) (v : bp) (ds : ag) (i H h : Int) (o : ag) (n : Nat) (k : AEx -> LSt -> Option R) : KPo n k (.exit 2) (xPh aP x t v ds i H h o) = lp cb aQ rN n (JH x t v ds (i64.wrap (i + 1)) o) k := by
 rw [← mI (ids := [3, 7, 10])]
 cases o with
 | nil => kernel_rfl
 | cons c r => kernel_rfl
theorem acv {R : Type} (aP : ag) (x : dL) (t : (Y0).den) (v : bp) (ds : ag) (i H : Int) (o : ag) (k : AEx -> LSt -> Option R) : hlp cb aQ pW R (EU aP x t v ds i H 0 o) k = lp cb aQ pW fu (EU aP x t v ds i H 0 o) k := rfl
def xPo (x : dL) (t : (Y0).den) (v : bp) (ds : ag) (i : Int) (o : ag) : LSt := match o with
 | [] => { fr := aw 6 [(3, .d (.slice af) ds), (4, AV.op 0 [] 0), (5, AV.op 1 [] 0), (6, AV.op 2 [] 0), (9, AV.nils), (15, I v.2.2.2.2.2.2.2.2.1), (16, I i), (17, B false)], hp := CE x t v, nx := 3 }
 | a :: o => { fr := aw 6 [(3, .d (.slice af) ds), (4, AV.op 0 [] 0), (5, AV.op 1 [] 0), (6, AV.op 2 [] 0), (9, AV.os 3 0), (15, I v.2.2.2.2.2.2.2.2.1), (16, I i), (17, B false)], hp := CH (a :: o) x t v, nx := 4 }
def PT (data : ag) (pn p : Nat) : ag := (data.drop (p * pn)).take pn
def CJ (op : aj) (data : ag) (v : bp) (P pn H W : Nat) : ag := (List.range P).flatMap fun (p : Nat) => OP op (PT data pn p) v H W
theorem acw {R : Type} {x : dL} {t : (Y0).den} {v : bp} {ds : ag} {P pn H W : Nat} {k : AEx -> LSt -> Option R} (hP : v.2.2.2.2.2.2.2.2.1 = (P : Int)) (PJ : v.2.2.2.2.2.2.2.2.2.1 = (pn : Int)) (hd : P * pn <= t.2.2.1.length) (PI : t.2.2.1.length <= 2147483648) (hP2 : P <= 2147483648) (hK : rM v pn = true) (hH1 : idx ds 2 = some (H : Int)) (hW : idx ds 3 = some (W : Int)) (hH : H <= 2147483648) (hl : P * (H * W) <= 2147483648) :
  lp cb aQ rN fu (JH x t v ds 0 []) k = k (.exit 0) (xPo x t v ds (P : Int) (CJ x.1 t.2.2.1 v P pn H W)) := by
 have hm : maxLen = 9223372036854775807 := by decide
 refine (iE (N := P) (T := fun n s => lp cb aQ rN n s k) (st := JH x t v ds) (f := fun (o : ag) (p : Nat) => Nx.go (R := R) (o ++ OP x.1 (PT t.2.2.1 pn p) v H W)) (fin := fun o => k (.exit 0) (xPo x t v ds (P : Int) o)) (fun (p : Nat) (o' : ag) => o'.length = p * (H * W)) (by omega) ?_ ?_ (a := []) (by rw [Nat.zero_mul]; rfl)).trans ((Hd (fun p => OP x.1 (PT t.2.2.1 pn p) v H W) (fun o => k (.exit 0) (xPo x t v ds (P : Int) o)) (List.range P) []).trans rfl)
 ·intro p o' n hI hi hw hdd
  refine .inl ⟨_, rfl, by rw [List.length_append, hI, zn, Nat.succ_mul], ?_⟩
  have hdd : decide ((p : Int) < v.2.2.2.2.2.2.2.2.1) = true := by rw [hP]; exact hdd
  have hb : (p + 1) * (H * W) <= P * (H * W) := Nat.mul_le_mul_right _ hi
  have j5 : (p + 1) * pn <= P * pn := Nat.mul_le_mul_right _ hi
  rw [Nat.succ_mul] at hb j5
  have hl3 : o'.length + H * W <= 2147483648 := by omega
  have vm : i64.wrap ((p : Int) * (pn : Int)) = ((p * pn : Nat) : Int) := by rw [← Int.natCast_mul]; exact aJ (by omega) (by omega)
  have eQ : (PT t.2.2.1 pn p).length = pn := by rw [PT, List.length_take, List.length_drop]; omega
  have hq : ∀ s, s = EU (PT t.2.2.1 pn p) x t v ds (p : Int) (H : Int) 0 o' -> hlp cb aQ pW R s (KPo n k) = lp cb aQ rN n (JH x t v ds ((p + 1 : Nat) : Int) (o' ++ OP x.1 (PT t.2.2.1 pn p) v H W)) k := by
   rintro s rfl
   rw [acv, acs (by rw [eQ]; exact hK) hW hH hl3, acu, hw]
  have e1 : (if 0 <= ((p * pn : Nat) : Int) /\ ((p * pn : Nat) : Int) <= Int.ofNat t.2.2.1.length /\ Int.ofNat t.2.2.1.length <= Int.ofNat t.2.2.1.length then some (List.drop ((p * pn : Nat) : Int).toNat (List.take (Int.ofNat t.2.2.1.length).toNat t.2.2.1)) else none) = some (t.2.2.1.drop (p * pn)) := by
   rw [if_pos ⟨by omega, by show ((p * pn : Nat) : Int) <= ((t.2.2.1.length : Nat) : Int); omega, Int.le_refl _⟩, Int.toNat_natCast, show (Int.ofNat t.2.2.1.length).toNat = t.2.2.1.length from rfl, List.take_length]
  have e2 : (if (0 : Int) <= 0 /\ 0 <= (pn : Int) /\ (pn : Int) <= Int.ofNat (t.2.2.1.drop (p * pn)).length then some (List.drop 0 (List.take (pn : Int).toNat (t.2.2.1.drop (p * pn)))) else none) = some (PT t.2.2.1 pn p) := by
   rw [if_pos ⟨Int.le_refl _, by omega, by rw [List.length_drop]; show (pn : Int) <= ((t.2.2.1.length - p * pn : Nat) : Int); omega⟩, Int.toNat_natCast]
   rfl
  cases o' with
  | nil =>
   show lp _ _ _ (n + 1) (CF x t v ds (p : Int)) _ = _
   rw [OI, hdd, ak, PJ, vm, e1, aA, e2, aA, hH1, aA]
   exact hq _ rfl
  | cons c r =>
   show lp _ _ _ (n + 1) (G9 (c :: r) x t v ds (p : Int)) _ = _
   rw [OJ, hdd, ak, PJ, vm, e1, aA, e2, aA, hH1, aA]
   exact hq _ rfl
 ·intro o' n hI hdd
  have hdd : decide ((P : Int) < v.2.2.2.2.2.2.2.2.1) = false := by rw [hP]; exact hdd
  cases o' with
  | nil =>
   show lp _ _ _ (n + 1) (CF x t v ds (P : Int)) _ = _
   rw [OI, hdd, ax]
   rfl
  | cons c r =>
   show lp _ _ _ (n + 1) (G9 (c :: r) x t v ds (P : Int)) _ = _
   rw [OJ, hdd, ax]
   rfl
noncomputable def KPz : AEx -> LSt -> Option (aq × LHp) := (aW 0 (bt cb aQ [3, 7, 10] (hlp cb aQ) (cR (cR (cR uX))) (bA prog 0 f26.results.toList ah)))
theorem agJ (x : dL) (t : (Y0).den) (v : bp) (ds : ag) (i : Int) (o : ag) : uu (.slice af) (KPz (.exit 0) (xPo x t v ds i o)) = some (.ret [.d (.slice af) o], []) := by
 cases o with
 | nil => kernel_rfl
 | cons c r => kernel_rfl
theorem acx (x : dL) (t : (Y0).den) (v : bp) (ds : ag) : hlp cb aQ rN (aq × LHp) (JH x t v ds 0 []) KPz = lp cb aQ rN fu (JH x t v ds 0 []) KPz := rfl
def rO (n : Nat) (v : bp) (ds : ag) : Bool := rM v v.2.2.2.2.2.2.2.2.2.1.toNat && (decide (0 <= v.2.2.2.2.2.2.2.2.2.1) && (decide (0 <= v.2.2.2.2.2.2.2.2.1 /\ v.2.2.2.2.2.2.2.2.1 <= 2147483648) && (decide (v.2.2.2.2.2.2.2.2.1.toNat * v.2.2.2.2.2.2.2.2.2.1.toNat <= n /\ n <= 2147483648) && (decide (ds.length = 4) && (decide (0 <= ds.getD 2 0 /\ ds.getD 2 0 <= 2147483648) && (decide (0 <= ds.getD 3 0) && decide (v.2.2.2.2.2.2.2.2.1.toNat * ((ds.getD 2 0).toNat * (ds.getD 3 0).toNat) <= 2147483648)))))))
def agK : List AV -> LHp -> Tq
 | [.d Y2 (op, _), .d Y0 (_, _, data, _), .d Y4 v, .d zS ds], [] => .br (rO (List.length (α := Int) data) v ds) (dat (.slice af) (CJ op data v v.2.2.2.2.2.2.2.2.1.toNat v.2.2.2.2.2.2.2.2.2.1.toNat (ds.getD 2 0).toNat (ds.getD 3 0).toNat)) .no
 | _, _ => .no
theorem Vs : bE 26 (ao agK) := by
 have h1 := bS (d := 6) (l := [(3, [3, 4, 5, 6, 9, 15, 16]), (7, [3, 4, 5, 6, 9, 11, 15, 16, 31, 32]), (10, [3, 4, 5, 6, 9, 11, 12, 15, 16, 31, 32, 37, 38])]) JG func26 call26
 refine aO fun args hs ae aF h' => ?_
 unfold agK at h'
 split at h'
 ·rename_i op x kd xs data u v ds
  obtain ⟨hb, h2⟩ := Tq.br_no h'
  unfold rO at hb
  simp only [bg, decide_eq_true_eq] at hb
  obtain ⟨b1, b2, ⟨b3, b4⟩, ⟨b5, b6⟩, b7, ⟨b8, b9⟩, b10, b11⟩ := hb
  have g2 : idx ds 2 = some (((ds.getD 2 0).toNat : Nat) : Int) := by rw [Int.toNat_of_nonneg b8]; exact aK (i := 2) (by omega)
  have g3 : idx ds 3 = some (((ds.getD 3 0).toNat : Nat) : Int) := by rw [Int.toNat_of_nonneg b10]; exact aK (i := 3) (by omega)
  have h9 := (ack (op, x) (kd, xs, data, u) v ds).trans ((acx _ _ _ _).trans (acw (k := KPz) (x := (op, x)) (t := (kd, xs, data, u)) (P := v.2.2.2.2.2.2.2.2.1.toNat) (pn := v.2.2.2.2.2.2.2.2.2.1.toNat) (H := (ds.getD 2 0).toNat) (W := (ds.getD 3 0).toNat) (Int.toNat_of_nonneg b3).symm (Int.toNat_of_nonneg b2).symm b5 b6 (by omega) b1 g2 g3 (by omega) b11))
  refine h1.okB (.slice af) (Eq.trans ?_ h2)
  refine (congrArg (uu (.slice af)) h9).trans ?_
  exact agJ _ _ _ _ _ _
 ·cases h'
def bf : List Nat -> Nat
 | [] => 1
 | d :: r => d * bf r
def pX : List Nat -> Nat -> List Nat
 | [], _ => []
 | _ :: r, q => q / bf r :: pX r (q % bf r)
def ints (l : List Nat) : ag := l.map (fun n : Nat => (n : Int))
theorem JI (a : Nat) (l : List Nat) : ints (a :: l) = (a : Int) :: ints l := rfl
theorem gQ (l : List Nat) : (ints l).length = l.length := by simp [ints]
theorem Hf : ∀ (ds : List Nat) (q : Nat), (pX ds q).length = ds.length
 | [], _ => rfl
 | _ :: r, q => by simp only [pX, List.length_cons, Hf r]
theorem Hg {xs zs : ag} {y : Int} : (xs ++ y :: zs)[xs.length]? = some y := by
 rw [List.getElem?_append_right (Nat.le_refl _), Nat.sub_self]
 rfl
theorem su {xs zs : ag} {y : Int} : idx (xs ++ y :: zs) (Int.ofNat xs.length) = some y := by
 unfold idx
 rw [if_pos (show (0 : Int) <= Int.ofNat xs.length from Int.natCast_nonneg _), show (Int.ofNat xs.length).toNat = xs.length from rfl, Hg]
theorem Hh {xs zs : ag} {y v : Int} : fJ (xs ++ y :: zs) xs.length v = some (xs ++ v :: zs) := by
 unfold fJ
 rw [show Nat.blt xs.length (xs ++ y :: zs).length = true from Nat.ble_eq_true_of_le (by rw [List.length_append, List.length_cons]; omega), ak, List.set_append_right _ _ (Nat.le_refl _), Nat.sub_self]
 rfl
theorem xi {ds : List Nat} (h : ∀ d ∈ ds, 1 <= d) : 1 <= bf ds := by
 induction ds with
 | nil => exact Nat.le_refl _
 | cons d r ih =>
  have h1 := h d (by simp)
  have h2 := ih fun x hx => h x (by simp [hx])
  exact Nat.mul_pos h1 h2
theorem u0 : ∀ (ds : List Nat) (a : Int), (ints ds).foldl (· * ·) a = a * (bf ds : Nat)
 | [], a => by show a = a * ((1 : Nat) : Int); rw [Int.natCast_one, Int.mul_one]
 | d :: r, a => by
  show (ints r).foldl (· * ·) (a * (d : Int)) = a * ((d * bf r : Nat) : Int)
  rw [u0 r, Int.mul_assoc, Int.natCast_mul]
theorem j3 (ds : List Nat) : cG (ints ds) = (bf ds : Nat) := by
 unfold cG
 rw [u0, Int.one_mul]
theorem CL : ∀ {xs : ag}, (∀ x ∈ xs, 0 <= x) -> ints (xs.map Int.toNat) = xs
 | [], _ => rfl
 | x :: r, h => by
  show ((x.toNat : Nat) : Int) :: ints (r.map Int.toNat) = x :: r
  rw [CL fun y hy => h y (by simp [hy]), Int.toNat_of_nonneg (h x (by simp))]
def kM : List Nat -> List Nat
 | [] => []
 | _ :: r => bf r :: kM r
theorem xj : ∀ (a b : List Nat), bf (a ++ b) = bf a * bf b
 | [], b => by show bf b = 1 * bf b; rw [Nat.one_mul]
 | x :: r, b => by show x * bf (r ++ b) = x * bf r * bf b; rw [xj r b, Nat.mul_assoc]
theorem EV {a b : List Nat} (h : ∀ x ∈ a, 1 <= x) : bf b <= bf (a ++ b) := by
 rw [xj]
 exact Nat.le_mul_of_pos_left _ (xi h)
def CM (d : ag) : ag := ints (kM (d.map Int.toNat))
noncomputable def W3 : Code := bD f86
noncomputable def Vt : Code := cL (cL (cR (cL (cR (cR (cR (cR W3)))))))
noncomputable def mW : Cfg := ⟨43, 6, 0, [(7, [0, 6, 7, 22, 23])], true⟩
def Vu (d out : ag) (n i : Int) : LSt := { fr := aw 6 [(0, AV.d (af).slice d), (6, AV.os 0 0), (7, I n), (22, I (Int.ofNat d.length)), (23, I i)], hp := [(0, al.arr 3 af 0 false out)], nx := 1 }
noncomputable def KSs : AEx -> LSt -> Option (aq × LHp) := (aW 0 (bt sa mW [7] (hlp sa mW) (cR (cR (cR (cR (cR W3))))) (bA prog 0 f86.results.toList ah)))
theorem acy (d : ag) : aC sa f86 6 [(7, [0, 6, 7, 22, 23])] [.d (.slice af) d] [] ah = bif decide (d.length <= 9223372036854775807) then bif aB d != 0 then ay [AV.nils, I (aB d)] else (if 0 <= Int.ofNat d.length /\ Int.ofNat d.length <= 4294967296 then some (List.replicate (Int.ofNat d.length).toNat 0) else none).bind fun v2 => (hlp sa mW) Vt _ (Vu d v2 1 0) KSs else none := (bI [7] mW rfl).trans (by obtain ⟨hl, h⟩ := bw sa mW; rw [h]; kernel_rfl)
theorem OR (d out : ag) (n0 i : Int) (n : Nat) {R : Type} (k : AEx -> LSt -> Option R) : lp sa mW Vt (n + 1) (Vu d out n0 i) k = bif decide (i < Int.ofNat d.length) then (idx out (i64.wrap (i64.wrap (Int.ofNat d.length - 1) - i))).bind fun v1 => (fJ out (i64.wrap (i64.wrap (Int.ofNat d.length - 1) - i)).toNat n0).bind fun v2 => (idx d (i64.wrap (i64.wrap (Int.ofNat d.length - 1) - i))).bind fun v3 => lp sa mW Vt n (Vu d v2 (i64.wrap (n0 * v3)) (i64.wrap (i + 1))) k else k (AEx.exit 0) { fr := aw 6 [(0, AV.d (af).slice d), (6, AV.os 0 0), (7, I n0), (22, I (Int.ofNat d.length)), (23, I i), (24, B false)], hp := [(0, al.arr 3 (af) 0 false out)], nx := 1 } := by kernel_rfl
theorem acz (d out : ag) (n0 i : Int) : KSs (.exit 0) { fr := aw 6 [(0, AV.d (af).slice d), (6, AV.os 0 0), (7, I n0), (22, I (Int.ofNat d.length)), (23, I i), (24, B false)], hp := [(0, al.arr 3 af 0 false out)], nx := 1 } = some (aq.ret [AV.os 0 0, I 0], [(0, al.arr 3 (af) 0 false out)]) := by kernel_rfl
theorem acA {D : List Nat} (hD : ∀ x ∈ D, 1 <= x) (hP : bf D <= 65536) (hl : D.length <= 6) : ∀ (r : Nat) (Dp Dr : List Nat) (n : Nat), Dp.length = r -> D = Dp ++ Dr -> r < n ->
  lp sa mW Vt n (Vu (ints D) (List.replicate r (0 : Int) ++ ints (kM Dr)) (bf Dr : Nat) (Dr.length : Nat)) KSs = some (.ret [.os 0 0, I 0], [(0, .arr 3 af 0 false (ints (kM D)))]) := by
 intro r
 induction r with
 | zero =>
  intro Dp Dr n h1 h2 hn
  obtain ⟨n, rfl⟩ : ∃ m', n = m' + 1 := ⟨n - 1, by omega⟩
  cases Dp with
  | cons _ _ => cases h1
  | nil =>
   simp only [List.nil_append] at h2
   subst h2
   rw [OR, de (show ¬ (((D.length : Nat) : Int) < Int.ofNat (ints D).length) by rw [gQ]; exact Int.lt_irrefl _), ax]
   exact acz _ _ _ _
 | succ r ih =>
  intro Dp Dr n h1 h2 hn
  obtain ⟨n, rfl⟩ : ∃ m', n = m' + 1 := ⟨n - 1, by omega⟩
  rcases List.eq_nil_or_concat Dp with h0 | ⟨Dq, d, h0⟩
  ·subst h0; cases h1
  ·subst h0
   have hq : Dq.length = r := by simp at h1; exact h1
   have hDl : D.length = r + 1 + Dr.length := by rw [h2]; simp [hq]; omega
   have e2 : D = Dq ++ d :: Dr := by rw [h2]; simp
   have w0 : i64.wrap (Int.ofNat (ints D).length - 1) = (r : Int) + Dr.length := by
    rw [gQ, aJ (by simp only [aT]; omega) (by simp only [aT]; omega)]
    simp only [aT]
    omega
   have w1 : i64.wrap (i64.wrap (Int.ofNat (ints D).length - 1) - (Dr.length : Int)) = Int.ofNat r := by
    rw [w0, aJ (by omega) (by omega)]
    simp only [aT]
    omega
   have cn : ((Dr.length : Nat) : Int) < Int.ofNat (ints D).length := by rw [gQ]; simp only [aT]; omega
   have er : List.replicate (r + 1) (0 : Int) ++ ints (kM Dr) = List.replicate r (0 : Int) ++ (0 : Int) :: ints (kM Dr) := by
    rw [List.replicate_succ', List.append_assoc]
    rfl
   have g1 : idx (List.replicate r (0 : Int) ++ (0 : Int) :: ints (kM Dr)) (Int.ofNat r) = some 0 := by
    have := su (xs := List.replicate r (0 : Int)) (zs := ints (kM Dr)) (y := 0)
    rw [List.length_replicate] at this
    exact this
   have g2 : fJ (List.replicate r (0 : Int) ++ (0 : Int) :: ints (kM Dr)) (Int.ofNat r).toNat (bf Dr : Nat) = some (List.replicate r (0 : Int) ++ ints (kM (d :: Dr))) := by
    have := Hh (xs := List.replicate r (0 : Int)) (zs := ints (kM Dr)) (y := 0) (v := ((bf Dr : Nat) : Int))
    rw [List.length_replicate] at this
    exact this
   have g3 : idx (ints D) (Int.ofNat r) = some (d : Int) := by
    have := su (xs := ints Dq) (zs := ints Dr) (y := (d : Int))
    rw [gQ, hq] at this
    rw [e2, show ints (Dq ++ d :: Dr) = ints Dq ++ (d : Int) :: ints Dr by unfold ints; rw [List.map_append, List.map_cons]]
    exact this
   have hpd : bf (d :: Dr) <= 65536 := by
    refine Nat.le_trans ?_ hP
    rw [e2]
    exact EV fun x hx => hD x (by rw [e2]; simp [hx])
   have hpd' : d * bf Dr <= 65536 := hpd
   have w2 : i64.wrap (((bf Dr : Nat) : Int) * (d : Int)) = ((bf (d :: Dr) : Nat) : Int) := by
    rw [← Int.natCast_mul, show bf (d :: Dr) = d * bf Dr from rfl, Nat.mul_comm, aJ (by omega) (by omega)]
   have w3 : i64.wrap ((Dr.length : Int) + 1) = (((d :: Dr).length : Nat) : Int) := by
    rw [aJ (by omega) (by omega), List.length_cons]
    omega
   rw [OR, aE cn, ak, w1, er, g1, aA, g2, aA, g3, aA, w2, w3]
   exact ih Dq (d :: Dr) n hq e2 (by omega)
theorem lr {d : ag} (h : aB d = 0) : ∃ D : List Nat, d = ints D /\ D = d.map Int.toNat /\ (∀ x ∈ D, 1 <= x) /\ bf D <= 65536 /\ D.length <= 6 := by
 obtain ⟨p1, p2, p3, _⟩ := fL h
 have ed : ints (d.map Int.toNat) = d := CL fun x hx => by have := p1 x hx; omega
 refine ⟨d.map Int.toNat, ed.symm, rfl, fun x hx => ?_, ?_, by rw [List.length_map]; exact p2⟩
 ·obtain ⟨y, hy, rfl⟩ := List.mem_map.1 hx
  have := p1 y hy
  omega
 ·have e := j3 (d.map Int.toNat)
  rw [ed] at e
  omega
theorem Vv {d : ag} (hl : d.length <= maxLen) : aC sa f86 6 [(7, [0, 6, 7, 22, 23])] [.d (.slice af) d] [] ah =
  bif aB d != 0 then some (.ret [.nils, I (aB d)], []) else some (.ret [.os 0 0, I 0], [(0, .arr 3 af 0 false (CM d))]) := by
 refine (acy d).trans ?_
 rw [aE (show d.length <= 9223372036854775807 from hl), ak]
 cases hc : aB d != 0 with
 | true => rfl
 | false =>
  have h0 : aB d = 0 := by simpa using hc
  obtain ⟨D, rfl, eD, h1, h2, h3⟩ := lr h0
  have hf : fu = 18446744073709551616 := rfl
  rw [ax, ax, if_pos (show 0 <= Int.ofNat (ints D).length /\ Int.ofNat (ints D).length <= 4294967296 by rw [gQ]; simp only [aT]; omega), aA]
  have key := acA h1 h2 h3 D.length D [] fu rfl (by simp) (by omega)
  rw [show (kM ([] : List Nat)) = [] from rfl, show ints [] = [] from rfl, List.append_nil] at key
  unfold CM
  rw [← eD, show (Int.ofNat (ints D).length).toNat = D.length by rw [gQ]; rfl]
  exact key
def acB : List AV -> LHp -> Tq
 | [.d zS d], [] => .br (decide (d.length <= maxLen)) (.br (aB d != 0) (.leaf (.ret [.nils, I (aB d)]) []) (.leaf (.ret [.os 0 0, I 0]) [(0, .arr 3 af 0 false (CM d))])) .no
 | _, _ => .no
theorem Vw : bE 86 (ao acB) := by
 have h1 : bE 86 (au sa f86 6 [(7, [0, 6, 7, 22, 23])]) := L6
 refine aO fun args hs ae aF h' => ?_
 unfold acB at h'
 split at h'
 ·obtain ⟨hl, h2⟩ := Tq.br_no h'
  exact h1.okC ((Vv (aZ hl)).trans h2)
 ·cases h'
theorem EW (D : List Nat) : (ints D).map Int.toNat = D := by
 induction D with
 | nil => rfl
 | cons a l ih => rw [JI, List.map_cons, ih]; rfl
theorem JJ (D : List Nat) : CM (ints D) = ints (kM D) := by unfold CM; rw [EW]
noncomputable def W4 : Code := bD f61
noncomputable def OS : Code := cL (cL (cR (cL (cR (cR (cR (cR (cR (cR W4)))))))))
noncomputable def acC : Code := cR (cR (cR (cR (cR (cR (cR W4))))))
noncomputable def iy : Cfg := ⟨54, 6, 0, [(9, [1, 10, 36, 37, 38])], true⟩
noncomputable def EX : Env := IL.add 86 (ao acB)
theorem OT : EX.Good := pA.add Vw
theorem acD (d : ag) (q : Int) : aC EX f61 6 [(9, [1, 10, 36, 37, 38])] [.d (.slice af) d, I q] [] ah = bif decide (d.length <= 9223372036854775807) then bif aB d != 0 then ay [AV.nils, I (aB d)] else bif decide (q < 0) then ay [AV.nils, I 1] else bif decide (q >= aR d) then ay [AV.nils, I 1] else bif decide (d.length <= 9223372036854775807) then bif aB d != 0 then (if 0 <= Int.ofNat d.length /\ Int.ofNat d.length <= 4294967296 then some (List.replicate (Int.ofNat d.length).toNat 0) else none).bind fun v6 => (hlp EX iy) OS _ { fr := aw 6 [(1, I q), (10, AV.os 0 0), (36, AV.nils), (37, I 0), (38, I 0)], hp := [(0, al.arr 3 (af) 0 false v6)], nx := 1 } (aW 0 (bt EX iy [9] (hlp EX iy) acC (bA prog 0 f61.results.toList ah))) else (if 0 <= Int.ofNat d.length /\ Int.ofNat d.length <= 4294967296 then some (List.replicate (Int.ofNat d.length).toNat 0) else none).bind fun v6 => (hlp EX iy) OS _ { fr := aw 6 [(1, I q), (10, AV.os 0 0), (36, AV.os 1 0), (37, I (Int.ofNat (CM d).length)), (38, I 0)], hp := [(0, al.arr 3 (af) 0 false v6), (1, al.arr 3 (af) 0 false (CM d))], nx := 2 } (aW 0 (bt EX iy [9] (hlp EX iy) acC (bA prog 0 f61.results.toList ah))) else none else none := (bI [9] iy rfl).trans (by obtain ⟨hl, h⟩ := bw EX iy; rw [h]; kernel_rfl)
def Vx (q i : Int) (out S : ag) : LSt := { fr := aw 6 [(1, I q), (10, AV.os 0 0), (36, AV.os 1 0), (37, I (Int.ofNat S.length)), (38, I i)], hp := [(0, al.arr 3 af 0 false out), (1, al.arr 3 af 0 false S)], nx := 2 }
theorem OU (q i : Int) (out S : ag) (n : Nat) {R : Type} (k : AEx -> LSt -> Option R) : lp EX iy OS (n + 1) (Vx q i out S) k = bif decide (i < Int.ofNat S.length) then (idx S i).bind fun v1 => (S[i.toNat]?).bind fun v2 => (if v2 = 0 then none else some (i64.wrap (q.tdiv v2))).bind fun v3 => (idx out i).bind fun v4 => (fJ out i.toNat v3).bind fun v5 => (if v2 = 0 then none else some (q.tmod v2)).bind fun v6 => lp EX iy OS n (Vx v6 (i64.wrap (i + 1)) v5 S) k else k (AEx.exit 0) { fr := aw 6 [(1, I q), (10, AV.os 0 0), (36, AV.os 1 0), (37, I (Int.ofNat S.length)), (38, I i), (39, B false)], hp := [(0, al.arr 3 (af) 0 false out), (1, al.arr 3 (af) 0 false S)], nx := 2 } := by kernel_rfl
noncomputable def KCr : AEx -> LSt -> Option (aq × LHp) := (aW 0 (bt EX iy [9] (hlp EX iy) acC (bA prog 0 f61.results.toList ah)))
theorem acE (q i l : Int) (out S : ag) : KCr (.exit 0) { fr := aw 6 [(1, I q), (10, AV.os 0 0), (36, AV.os 1 0), (37, I l), (38, I i), (39, B false)], hp := (Vx q i out S).hp, nx := 2 } = some (aq.ret [AV.os 0 0, I 0], [(0, al.arr 3 (af) 0 false out)]) := by kernel_rfl
noncomputable def rk : Code := bD f24
noncomputable def oJ : Code := cL (cL (cR (cL (cR (cR (cR (cR (cR (cR (cR (cR rk)))))))))))
noncomputable def u5 : Code := cL (cL (cR (cL (cR (cR (cR (cR (cL (cL (cR (cR (cL (cL (cR (cL (cR (cR (cR (cR (cR (cR (cR (cR rk)))))))))))))))))))))))
noncomputable def agL : Code := cR (cR (cR (cR (cR (cL (cL (cR (cR (cL (cL (cR (cL (cR (cR (cR (cR (cR (cR (cR (cR rk))))))))))))))))))))
noncomputable def agM : Code := cR (cR (cR (cL (cL (cR (cL (cR (cR (cR (cR (cR (cR (cR (cR rk))))))))))))))
noncomputable def agN : Code := cL (cR (cR (cR (cR (cL (cL (cR (cR (cL (cL (cR (cL (cR (cR (cR (cR (cL (cL (cR (cR (cL (cL (cR (cL (cR (cR (cR (cR (cR (cR (cR (cR rk))))))))))))))))))))))))))))))))
noncomputable def agO : Code := cR (cR (cR (cL (cL (cR (cL (cR (cR (cR (cR (cL (cL (cR (cR (cL (cL (cR (cL (cR (cR (cR (cR (cR (cR (cR (cR rk))))))))))))))))))))))))))
noncomputable def bl : Cfg := ⟨164, 8, 0, [(9, [1, 2, 7, 8, 9, 11, 12, 13, 16, 69, 70]), (15, [1, 2, 7, 8, 9, 11, 12, 13, 16, 17, 18, 20, 21, 69, 70, 82, 83]), (20, [0, 1, 2, 3, 9, 21, 23, 24, 25, 32, 65, 77, 97, 100, 108, 117, 131, 132, 133, 134, 135, 136, 137, 138, 139, 140, 141, 142, 143, 144])], true⟩
theorem OV : ∀ (Dr : List Nat) (Cp Sp : ag) (q n : Nat), (∀ x ∈ Dr, 1 <= x) -> bf Dr <= 65536 -> q < bf Dr -> Sp.length = Cp.length -> Cp.length + Dr.length <= 6 -> Dr.length < n ->
  lp EX iy OS n (Vx (q : Nat) (Cp.length : Nat) (Cp ++ List.replicate Dr.length 0) (Sp ++ ints (kM Dr))) KCr = some (.ret [.os 0 0, I 0], [(0, .arr 3 af 0 false (Cp ++ ints (pX Dr q)))])
 | [], Cp, Sp, q, n, _, _, _, hS, h6, hn => by
  obtain ⟨n, rfl⟩ : ∃ m', n = m' + 1 := ⟨n - 1, by omega⟩
  rw [show ints (kM []) = [] from rfl, show List.replicate ([] : List Nat).length (0 : Int) = [] from rfl, List.append_nil, List.append_nil, OU, de (show ¬ (((Cp.length : Nat) : Int) < Int.ofNat Sp.length) by simp only [aT]; omega), ax, show ints (pX [] q) = [] from rfl, List.append_nil]
  exact acE _ _ _ _ _
 | d :: r, Cp, Sp, q, n, h1, h2, hq, hS, h6, hn => by
  obtain ⟨n, rfl⟩ : ∃ m', n = m' + 1 := ⟨n - 1, by omega⟩
  have o1 := h1 d (by simp)
  have o2 : ∀ x ∈ r, 1 <= x := fun x hx => h1 x (by simp [hx])
  have p1 := xi o2
  have xp : d * bf r <= 65536 := h2
  have hq' : q < d * bf r := hq
  have p2 : bf r <= d * bf r := Nat.le_mul_of_pos_left _ o1
  have hqd : q / bf r < d := Nat.div_lt_of_lt_mul (by rw [Nat.mul_comm]; exact hq')
  have hd6 : d <= d * bf r := Nat.le_mul_of_pos_right _ p1
  simp only [List.length_cons] at h6 hn
  have key := OV r (Cp ++ [((q / bf r : Nat) : Int)]) (Sp ++ [((bf r : Nat) : Int)]) (q % bf r) n o2 (by omega) (Nat.mod_lt _ p1) (by rw [List.length_append, List.length_append, hS]; rfl) (by rw [List.length_append, List.length_singleton]; omega) (by omega)
  have eS : Sp ++ ints (kM (d :: r)) = Sp ++ ((bf r : Nat) : Int) :: ints (kM r) := rfl
  have eO : Cp ++ List.replicate (d :: r).length (0 : Int) = Cp ++ (0 : Int) :: List.replicate r.length 0 := rfl
  have g1 : idx (Sp ++ ((bf r : Nat) : Int) :: ints (kM r)) (Int.ofNat Cp.length) = some ((bf r : Nat) : Int) := by rw [← hS]; exact su
  have g1' : (Sp ++ ((bf r : Nat) : Int) :: ints (kM r))[(Int.ofNat Cp.length).toNat]? = some ((bf r : Nat) : Int) := by rw [← hS]; exact Hg
  have g2 : idx (Cp ++ (0 : Int) :: List.replicate r.length 0) (Int.ofNat Cp.length) = some 0 := su
  have g3 : fJ (Cp ++ (0 : Int) :: List.replicate r.length 0) (Int.ofNat Cp.length).toNat ((q / bf r : Nat) : Int) = some (Cp ++ ((q / bf r : Nat) : Int) :: List.replicate r.length 0) := Hh
  have w1 : i64.wrap ((q : Int).tdiv ((bf r : Nat) : Int)) = ((q / bf r : Nat) : Int) := by
   rw [show (q : Int).tdiv ((bf r : Nat) : Int) = ((q / bf r : Nat) : Int) from rfl]
   clear key
   generalize q / bf r = z at hqd ⊢
   exact aJ (by omega) (by omega)
  have w2 : i64.wrap (Int.ofNat Cp.length + 1) = ((Cp.length + 1 : Nat) : Int) := by simp only [aT]; rw [aJ (by omega) (by omega)]; omega
  have lC : ¬ (((bf r : Nat) : Int) = 0) := by omega
  rw [eS, eO, show ((Cp.length : Nat) : Int) = Int.ofNat Cp.length from rfl, OU, aE (show Int.ofNat Cp.length < Int.ofNat (Sp ++ ((bf r : Nat) : Int) :: ints (kM r)).length by rw [List.length_append, List.length_cons]; simp only [aT]; omega), ak, g1, aA, g1', aA, if_neg lC, aA, g2, aA, w1, g3, aA, if_neg lC, aA, w2, show (q : Int).tmod ((bf r : Nat) : Int) = ((q % bf r : Nat) : Int) from rfl]
  simp only [List.append_assoc, List.singleton_append, List.length_append, List.length_singleton] at key
  exact key
theorem Vy {d : ag} {q : Nat} (hc : aB d = 0) (hq : q < bf (d.map Int.toNat)) : aC EX f61 6 [(9, [1, 10, 36, 37, 38])] [.d (.slice af) d, I q] [] ah = some (.ret [.os 0 0, I 0], [(0, .arr 3 af 0 false (ints (pX (d.map Int.toNat) q)))]) := by
 obtain ⟨_, h6, _, c4⟩ := fL hc
 obtain ⟨D, eD, eD2, o1, o2, o3⟩ := lr hc
 rw [← eD2] at hq ⊢
 have hcn : aR d = (bf D : Nat) := by rw [c4, eD, j3]
 have hf : fu = 18446744073709551616 := rfl
 rw [acD, aE (show d.length <= 9223372036854775807 by omega), hc, de (show ¬ ((q : Int) < 0) by omega), hcn, de (show ¬ ((q : Int) >= ((bf D : Nat) : Int)) by omega), ak, show ((0 : Int) != 0) = false from rfl, ax, ax, ax, ak, ax]
 rw [if_pos (show 0 <= Int.ofNat d.length /\ Int.ofNat d.length <= 4294967296 by simp only [aT]; omega), aA]
 have key := OV D [] [] q fu o1 o2 hq rfl (by rw [List.length_nil]; omega) (by omega)
 rw [List.nil_append, List.nil_append, List.nil_append] at key
 have e1 : List.replicate (Int.ofNat d.length).toNat (0 : Int) = List.replicate D.length 0 := by rw [eD, gQ]; rfl
 have e2 : CM d = ints (kM D) := by rw [eD, JJ]
 rw [e1, e2]
 refine Eq.trans ?_ key
 kernel_rfl
def acF : List AV -> LHp -> Tq
 | [.d zS d, .d zI q], [] => .br (decide (aB d = 0 /\ 0 <= q /\ q.toNat < bf (d.map Int.toNat))) (.leaf (.ret [.d (.slice af) (ints (pX (d.map Int.toNat) q.toNat)), I 0]) []) .no
 | _, _ => .no
theorem Vz : bE 61 (ao acF) := by
 have h1 := bS (d := 6) (l := [(9, [1, 10, 36, 37, 38])]) OT func61 call61
 refine aO fun args hs ae aF h' => ?_
 unfold acF at h'
 split at h'
 ·rename_i d q
  obtain ⟨hb, h2⟩ := Tq.br_no h'
  obtain ⟨c1, c2, c3⟩ := aZ hb
  refine h1.okBQ [.slice af, af] (Eq.trans ?_ h2)
  have h3 := Vy c1 c3
  rw [Int.toNat_of_nonneg c2] at h3
  refine (congrArg (lO _) h3).trans ?_
  rfl
 ·cases h'
noncomputable def iz (F : FnE) : Env := ((((g80.add 59 (ao uq)).add 27 acn).add 63 (ao JB)).add 61 (ao acF)).add 110 F
theorem OW {F : FnE} (hF : bE 110 F) : (iz F).Good := ((((um.add jm).add Ha).add sn).add Vz).add hF
theorem acG (F : FnE) (op nm : aj) (ins : List (aj)) (out : aj) (aa : bk) (x k : (Y0).den) (ts : List (Y0).den) (ds : ag) : aC (iz F) f24 8 [(9, [1, 2, 7, 8, 9, 11, 12, 13, 16, 69, 70]), (15, [1, 2, 7, 8, 9, 11, 12, 13, 16, 17, 18, 20, 21, 69, 70, 82, 83]), (20, [0, 1, 2, 3, 9, 21, 23, 24, 25, 32, 65, 77, 97, 100, 108, 117, 131, 132, 133, 134, 135, 136, 137, 138, 139, 140, 141, 142, 143, 144])] [dh op nm ins out aa, .d (.slice (Y0)) (x :: k :: ts), .d (.slice af) ds] [] ah = (idx k.2.1 2).bind fun v0 => (idx k.2.1 3).bind fun v1 => bif CG aa x.2.1 then bif decide (aa.length <= 9223372036854775807) then (idx k.2.1 1).bind fun v4 => (idx k.2.1 0).bind fun v5 => (if aX aa gF 1 = 0 then none else some (i64.wrap (Int.tdiv v5 (aX aa gF 1)))).bind fun v6 => bif decide (ds.length <= 9223372036854775807) then (if 0 <= aR ds /\ aR ds <= 4294967296 then some (List.replicate (aR ds).toNat 0) else none).bind fun v8 => (hlp (iz F) bl) oJ _ { fr := aw 8 [(1, AV.d Y0.slice (x :: k :: ts)), (2, AV.d (af).slice ds), (7, AV.op 0 [] 0), (8, AV.op 1 [] 0), (9, AV.op 2 [] 0), (11, I v4), (12, I (i64.wrap (v0 * v1))), (13, I v6), (16, AV.os 3 0), (69, I (Int.ofNat v8.length)), (70, I 0)], hp := [(0, al.box (AV.d Y0 x)), (1, al.box (AV.d Y0 k)), (2, al.box (AV.d Y4 (List.getD x.2.1 2 0, List.getD x.2.1 3 0, v0, v1, [(ai aa gq [1, 1]).getD 0 0, (ai aa gq [1, 1]).getD 1 0], [(ai aa gr [1, 1]).getD 0 0, (ai aa gr [1, 1]).getD 1 0], (ai aa cW [0, 0, 0, 0]).getD 0 0, (ai aa cW [0, 0, 0, 0]).getD 1 0, i64.wrap (List.getD x.2.1 0 0 * List.getD x.2.1 1 0), i64.wrap (List.getD x.2.1 2 0 * List.getD x.2.1 3 0), PUnit.unit))), (3, al.arr 2 (af) 0 false v8)], nx := 4 } (aW 0 (bt (iz F) bl [9, 15] (hlp (iz F) bl) (cR (cR (cR (cR (cR (cR (cR (cR (cR rk))))))))) (bA prog 0 f24.results.toList ah))) else none else none else none := (bI [9, 15] bl rfl).trans (by obtain ⟨hl, h⟩ := bw (iz F) bl; rw [h]; kernel_rfl)
abbrev ca := (Y0).den
def VA (x y : ca) (v : bp) (o : ag) : LHp := [(0, .box (.d (Y0) x)), (1, .box (.d (Y0) y)), (2, .box (.d (Y4) v)), (3, .arr 2 af 0 false o)]
def rP (x y : ca) (ts : List ca) (ds : ag) (v : bp) (each kern cM N : Int) (i : Int) (o : ag) : LSt := { fr := aw 8 [(1, .d (.slice (Y0)) (x :: y :: ts)), (2, .d (.slice af) ds), (7, AV.op 0 [] 0), (8, AV.op 1 [] 0), (9, AV.op 2 [] 0), (11, I each), (12, I kern), (13, I cM), (16, AV.os 3 0), (69, I N), (70, I i)], hp := VA x y v o, nx := 4 }
theorem zo (F : FnE) (x y : ca) (ts : List ca) (ds : ag) (v : bp) (each kern cM N i : Int) (o : ag) (n : Nat) {R : Type} (k : AEx -> LSt -> Option R) : lp (iz F) bl oJ (n + 1) (rP x y ts ds v each kern cM N i o) k = bif decide (i < N) then bif decide (aB ds = 0 /\ 0 <= i /\ i.toNat < bf (List.map Int.toNat ds)) then (idx (ints (pX (List.map Int.toNat ds) i.toNat)) 1).bind fun v2 => (hlp (iz F) bl) u5 _ { fr := aw 8 [(1, AV.d Y0.slice (x :: y :: ts)), (2, AV.d (af).slice ds), (7, AV.op 0 [] 0), (8, AV.op 1 [] 0), (9, AV.op 2 [] 0), (11, I each), (12, I kern), (13, I cM), (16, AV.os 3 0), (17, I i), (18, AV.d (af).slice (ints (pX (List.map Int.toNat ds) i.toNat))), (20, I v2), (21, AV.op 4 [] 0), (69, I N), (70, I i), (82, I each), (83, I 0)], hp := [(0, al.box (AV.d Y0 x)), (1, al.box (AV.d Y0 y)), (2, al.box (AV.d Y4 v)), (3, al.arr 2 (af) 0 false o), (4, al.box (I 0))], nx := 5 } (aW 2 (bt (iz F) bl [9, 15] (hlp (iz F) bl) agL (aW 1 (bt (iz F) bl [9, 15] (hlp (iz F) bl) agM (rB (iz F) bl [9, 15] (hlp (iz F) bl) oJ n k))))) else none else k (AEx.exit 0) { fr := aw 8 [(1, AV.d Y0.slice (x :: y :: ts)), (2, AV.d (af).slice ds), (7, AV.op 0 [] 0), (8, AV.op 1 [] 0), (9, AV.op 2 [] 0), (11, I each), (12, I kern), (13, I cM), (16, AV.os 3 0), (69, I N), (70, I i), (71, B false)], hp := [(0, al.box (AV.d Y0 x)), (1, al.box (AV.d Y0 y)), (2, al.box (AV.d Y4 v)), (3, al.arr 2 (af) 0 false o)], nx := 4 } := by
 rw [qx [9, 15]]
 obtain ⟨hl, h⟩ := bw (iz F) bl
 rw [h]
 kernel_rfl
def agP (x y : ca) (v : bp) (o : ag) (s : Int) : LHp := VA x y v o ++ [(4, .box (I s))]
def zp (x y : ca) (ts : List ca) (ds : ag) (v : bp) (each kern cM N i : Int) (o c : ag) (m : Int) (ch : Int) (s : Int) : LSt := { fr := aw 8 [(1, .d (.slice (Y0)) (x :: y :: ts)), (2, .d (.slice af) ds), (7, AV.op 0 [] 0), (8, AV.op 1 [] 0), (9, AV.op 2 [] 0), (11, I each), (12, I kern), (13, I cM), (16, AV.os 3 0), (17, I i), (18, .d (.slice af) c), (20, I m), (21, AV.op 4 [] 0), (69, I N), (70, I i), (82, I each), (83, I ch)], hp := agP x y v o s, nx := 5 }
theorem OX (hl : Hl) (F : FnE) (x y : ca) (ts : List ca) (ds : ag) (v : bp) (each kern cM N i : Int) (o c : ag) (m ch s : Int) (K : AEx -> LSt -> Option (aq × LHp)) : exQ (iz F) bl hl u5 (zp x y ts ds v each kern cM N i o c m ch s) K = bif decide (ch < each) then (idx c 0).bind fun v1 => (idx x.2.1 1).bind fun v2 => (if cM = 0 then none else some (i64.wrap (m.tdiv cM))).bind fun v3 => (if 0 <= i64.wrap (i64.wrap (i64.wrap (i64.wrap (v1 * v2) + i64.wrap (v3 * each)) + ch) * v.2.2.2.2.2.2.2.2.2.1) /\ i64.wrap (i64.wrap (i64.wrap (i64.wrap (v1 * v2) + i64.wrap (v3 * each)) + ch) * v.2.2.2.2.2.2.2.2.2.1) <= Int.ofNat (List.length x.2.2.1) /\ Int.ofNat (List.length x.2.2.1) <= Int.ofNat (List.length x.2.2.1) then some (List.drop (i64.wrap (i64.wrap (i64.wrap (i64.wrap (v1 * v2) + i64.wrap (v3 * each)) + ch) * v.2.2.2.2.2.2.2.2.2.1)).toNat (List.take (Int.ofNat (List.length x.2.2.1)).toNat x.2.2.1)) else none).bind fun v4 => (if (0 : Int) <= 0 /\ 0 <= v.2.2.2.2.2.2.2.2.2.1 /\ v.2.2.2.2.2.2.2.2.2.1 <= Int.ofNat v4.length then some (List.drop 0 (List.take v.2.2.2.2.2.2.2.2.2.1.toNat v4)) else none).bind fun v5 => (if 0 <= i64.wrap (i64.wrap (i64.wrap (m * each) + ch) * kern) /\ i64.wrap (i64.wrap (i64.wrap (m * each) + ch) * kern) <= Int.ofNat (List.length y.2.2.1) /\ Int.ofNat (List.length y.2.2.1) <= Int.ofNat (List.length y.2.2.1) then some (List.drop (i64.wrap (i64.wrap (i64.wrap (m * each) + ch) * kern)).toNat (List.take (Int.ofNat (List.length y.2.2.1)).toNat y.2.2.1)) else none).bind fun v6 => (if (0 : Int) <= 0 /\ 0 <= kern /\ kern <= Int.ofNat v6.length then some (List.drop 0 (List.take kern.toNat v6)) else none).bind fun v7 => (idx c 2).bind fun v8 => (idx c 3).bind fun v9 => hl agN _ { fr := aw 8 [(1, AV.d Y0.slice (x :: y :: ts)), (2, AV.d (af).slice ds), (7, AV.op 0 [] 0), (8, AV.op 1 [] 0), (9, AV.op 2 [] 0), (11, I each), (12, I kern), (13, I cM), (16, AV.os 3 0), (17, I i), (18, AV.d (af).slice c), (20, I m), (21, AV.op 4 [] 0), (22, I ch), (23, AV.op 5 [] 0), (24, AV.op 6 [] 0), (69, I N), (70, I i), (82, I each), (83, I ch), (84, B true), (85, I ch), (86, AV.op 0 [2] 2), (87, AV.d (af).slice x.2.2.1), (88, AV.d (af).slice c), (89, AV.ip (af) v1), (90, I v1), (91, AV.op 0 [1] 1), (92, AV.d (af).slice x.2.1), (93, AV.ip (af) v2), (94, I v2), (95, I (i64.wrap (v1 * v2))), (96, I m), (97, I cM), (98, I v3), (99, I each), (100, I (i64.wrap (v3 * each))), (101, I (i64.wrap (i64.wrap (v1 * v2) + i64.wrap (v3 * each)))), (102, I ch), (103, I (i64.wrap (i64.wrap (i64.wrap (v1 * v2) + i64.wrap (v3 * each)) + ch))), (104, AV.op 2 [9] 11), (105, I v.2.2.2.2.2.2.2.2.2.1), (106, I (i64.wrap (i64.wrap (i64.wrap (i64.wrap (v1 * v2) + i64.wrap (v3 * each)) + ch) * v.2.2.2.2.2.2.2.2.2.1))), (107, AV.d (af).slice v4), (108, AV.op 2 [9] 11), (109, I v.2.2.2.2.2.2.2.2.2.1), (110, AV.d (af).slice v5), (111, AV.op 1 [2] 2), (112, AV.d (af).slice y.2.2.1), (113, I m), (114, I each), (115, I (i64.wrap (m * each))), (116, I ch), (117, I (i64.wrap (i64.wrap (m * each) + ch))), (118, I kern), (119, I (i64.wrap (i64.wrap (i64.wrap (m * each) + ch) * kern))), (120, AV.d (af).slice v6), (121, I kern), (122, AV.d (af).slice v7), (123, AV.d Y4 v), (124, AV.d (af).slice c), (125, AV.ip (af) v8), (126, I v8), (127, AV.d (af).slice c), (128, AV.ip (af) v9), (129, I v9), (130, AV.fn (Fn.func 110) [] [AV.op 7 [] 0, AV.op 8 [] 0, AV.op 9 [] 0])], hp := [(7, al.box (AV.d Y4 v)), (8, al.box (I v8)), (9, al.box (I v9)), (6, al.box (AV.d (af).slice v7)), (6, al.box AV.nils), (5, al.box (AV.d (af).slice v5)), (5, al.box AV.nils), (0, al.box (AV.d Y0 x)), (1, al.box (AV.d Y0 y)), (2, al.box (AV.d Y4 v)), (3, al.arr 2 (af) 0 false o), (4, al.box (I s))], nx := 10 } (aW 4 (aW 3 (Sl (iz F) bl hl agO K))) else K (AEx.exit 2) { fr := aw 8 [(1, AV.d Y0.slice (x :: y :: ts)), (2, AV.d (af).slice ds), (7, AV.op 0 [] 0), (8, AV.op 1 [] 0), (9, AV.op 2 [] 0), (11, I each), (12, I kern), (13, I cM), (16, AV.os 3 0), (17, I i), (18, AV.d (af).slice c), (20, I m), (21, AV.op 4 [] 0), (69, I N), (70, I i), (82, I each), (83, I ch), (84, B false)], hp := [(0, al.box (AV.d Y0 x)), (1, al.box (AV.d Y0 y)), (2, al.box (AV.d Y4 v)), (3, al.arr 2 (af) 0 false o), (4, al.box (I s))], nx := 5 } := by kernel_rfl
noncomputable def cRf : Code := agN
def frR (x y : ca) (ts : List ca) (ds : ag) (v : bp) (each kern cM N i : Int) (o c : ag) (m ch s v1 v2 v3 : Int) (v4 v5 v6 v7 : ag) (v8 v9 : Int) : Tr := aw 8 [(1, AV.d Y0.slice (x :: y :: ts)), (2, AV.d (af).slice ds), (7, AV.op 0 [] 0), (8, AV.op 1 [] 0), (9, AV.op 2 [] 0), (11, I each), (12, I kern), (13, I cM), (16, AV.os 3 0), (17, I i), (18, AV.d (af).slice c), (20, I m), (21, AV.op 4 [] 0), (22, I ch), (23, AV.op 5 [] 0), (24, AV.op 6 [] 0), (69, I N), (70, I i), (82, I each), (83, I ch), (84, B true), (85, I ch), (86, AV.op 0 [2] 2), (87, AV.d (af).slice x.2.2.1), (88, AV.d (af).slice c), (89, AV.ip (af) v1), (90, I v1), (91, AV.op 0 [1] 1), (92, AV.d (af).slice x.2.1), (93, AV.ip (af) v2), (94, I v2), (95, I (i64.wrap (v1 * v2))), (96, I m), (97, I cM), (98, I v3), (99, I each), (100, I (i64.wrap (v3 * each))), (101, I (i64.wrap (i64.wrap (v1 * v2) + i64.wrap (v3 * each)))), (102, I ch), (103, I (i64.wrap (i64.wrap (i64.wrap (v1 * v2) + i64.wrap (v3 * each)) + ch))), (104, AV.op 2 [9] 11), (105, I v.2.2.2.2.2.2.2.2.2.1), (106, I (i64.wrap (i64.wrap (i64.wrap (i64.wrap (v1 * v2) + i64.wrap (v3 * each)) + ch) * v.2.2.2.2.2.2.2.2.2.1))), (107, AV.d (af).slice v4), (108, AV.op 2 [9] 11), (109, I v.2.2.2.2.2.2.2.2.2.1), (110, AV.d (af).slice v5), (111, AV.op 1 [2] 2), (112, AV.d (af).slice y.2.2.1), (113, I m), (114, I each), (115, I (i64.wrap (m * each))), (116, I ch), (117, I (i64.wrap (i64.wrap (m * each) + ch))), (118, I kern), (119, I (i64.wrap (i64.wrap (i64.wrap (m * each) + ch) * kern))), (120, AV.d (af).slice v6), (121, I kern), (122, AV.d (af).slice v7), (123, AV.d Y4 v), (124, AV.d (af).slice c), (125, AV.ip (af) v8), (126, I v8), (127, AV.d (af).slice c), (128, AV.ip (af) v9), (129, I v9), (130, AV.fn (Fn.func 110) [] [AV.op 7 [] 0, AV.op 8 [] 0, AV.op 9 [] 0])]
def hpR (x y : ca) (ts : List ca) (ds : ag) (v : bp) (each kern cM N i : Int) (o c : ag) (m ch s v1 v2 v3 : Int) (v4 v5 v6 v7 : ag) (v8 v9 : Int) : LHp := [(7, al.box (AV.d ((af).pair ((af).pair ((af).pair ((af).pair ((Ty.arr 2 (af)).pair ((Ty.arr 2 (af)).pair ((af).pair ((af).pair ((af).pair ((af).pair Ty.unit)))))))))) v)), (8, al.box (I v8)), (9, al.box (I v9)), (6, al.box (AV.d (af).slice v7)), (6, al.box AV.nils), (5, al.box (AV.d (af).slice v5)), (5, al.box AV.nils), (0, al.box (AV.d ((af).pair ((af).slice.pair ((af).slice.pair Ty.unit))) x)), (1, al.box (AV.d ((af).pair ((af).slice.pair ((af).slice.pair Ty.unit))) y)), (2, al.box (AV.d ((af).pair ((af).pair ((af).pair ((af).pair ((Ty.arr 2 (af)).pair ((Ty.arr 2 (af)).pair ((af).pair ((af).pair ((af).pair ((af).pair Ty.unit)))))))))) v)), (3, al.arr 2 (af) 0 false o), (4, al.box (I s))]
def agQ (x y : ca) (ts : List ca) (ds : ag) (v : bp) (each kern cM N i : Int) (o c : ag) (m ch s v1 v2 v3 : Int) (v4 v5 v6 v7 : ag) (v8 v9 : Int) : LSt := { fr := frR x y ts ds v each kern cM N i o c m ch s v1 v2 v3 v4 v5 v6 v7 v8 v9, hp := hpR x y ts ds v each kern cM N i o c m ch s v1 v2 v3 v4 v5 v6 v7 v8 v9, nx := 10 }
noncomputable def zq : vS := agF bl cRf
noncomputable def agR (x y : ca) (ts : List ca) (ds : ag) (v : bp) (each kern cM N i : Int) (o c : ag) (m ch s v1 v2 v3 : Int) (v4 v5 v6 v7 : ag) (v8 v9 : Int) : List (Nat × AV) := kG ⟨frR x y ts ds v each kern cM N i o c m ch s v1 v2 v3 v4 v5 v6 v7 v8 v9, [], 0⟩ (jM bl zq.assign)
noncomputable def JK (x y : ca) (ts : List ca) (ds : ag) (v : bp) (each kern cM N i : Int) (o c : ag) (m ch s v1 v2 v3 : Int) (v4 v5 v6 v7 : ag) (v8 v9 : Int) : LHp := (10, .rc (.loop zq (agR x y ts ds v each kern cM N i o c m ch s v1 v2 v3 v4 v5 v6 v7 v8 v9) .ready)) :: hpR x y ts ds v each kern cM N i o c m ch s v1 v2 v3 v4 v5 v6 v7 v8 v9
def aiQ (x y : ca) (ts : List ca) (ds : ag) (each cM m ch v3 : Int) : List (Nat × AV) := [(1, .d (.slice (Y0)) (x :: y :: ts)), (2, .d (.slice af) ds), (9, AV.op 6 [] 0), (21, AV.op 5 [] 0), (23, AV.op 4 [] 0), (24, AV.op 3 [] 0), (97, I cM), (100, I (i64.wrap (v3 * each))), (108, AV.op 6 [9] 11), (117, I (i64.wrap (i64.wrap (m * each) + ch)))]
noncomputable def Hi (x y : ca) (ts : List ca) (ds : ag) (v : bp) (each cM m ch v3 : Int) (aP gV : ag) (h w s : Int) : LHp := [(0, .box (I w)), (1, .box (I h)), (2, .box (OD v)), (3, .box (.d (.slice af) gV)), (4, .box (.d (.slice af) aP)), (5, .box (I s)), (6, .box (OD v)), (7, .rc (.loop zq (aiQ x y ts ds each cM m ch v3) .ready))]
theorem acI (F : FnE) (x y : ca) (ts : List ca) (ds : ag) (v : bp) (each kern cM N i : Int) (o c : ag) (m ch s v1 v2 v3 : Int) (v4 v5 v6 v7 : ag) (v8 v9 : Int) {R : Type} (k : AEx -> LSt -> Option R) : exC (iz F) bl cRf (agQ x y ts ds v each kern cM N i o c m ch s v1 v2 v3 v4 v5 v6 v7 v8 v9) k =
  F.run [.ref 7, .op 2 [] 0, .op 1 [] 0, .op 0 [] 0] (Hi x y ts ds v each cM m ch v3 v5 v7 v8 v9 s) (FZ [9, 8, 7, 6, 5, 4, 2, 10] (JK x y ts ds v each kern cM N i o c m ch s v1 v2 v3 v4 v5 v6 v7 v8 v9) 11 (rfK (frR x y ts ds v each kern cM N i o c m ch s v1 v2 v3 v4 v5 v6 v7 v8 v9) (JK x y ts ds v each kern cM N i o c m ch s v1 v2 v3 v4 v5 v6 v7 v8 v9) 10 k) (rfP (frR x y ts ds v each kern cM N i o c m ch s v1 v2 v3 v4 v5 v6 v7 v8 v9) (JK x y ts ds v each kern cM N i o c m ch s v1 v2 v3 v4 v5 v6 v7 v8 v9) 10 k)) := by kernel_rfl
noncomputable def zr (x : Int) (y : Int) : Option (aq × LHp) := bif (FloatKind.f32.format.read (fop BinOp.mul FloatKind.f32 (aI FloatKind.f32 (u32.wrap x).toNat) (aI FloatKind.f32 (u32.wrap y).toNat))).order (FloatKind.f32.format.read (fop BinOp.mul FloatKind.f32 (aI FloatKind.f32 (u32.wrap x).toNat) (aI FloatKind.f32 (u32.wrap y).toNat))) != some Ordering.eq then ay [I 2143289344] else bif l6 FloatKind.f32 (fop BinOp.mul FloatKind.f32 (aI FloatKind.f32 (u32.wrap x).toNat) (aI FloatKind.f32 (u32.wrap y).toNat)) then none else ay [I (i64.wrap (Int.ofNat (fop BinOp.mul FloatKind.f32 (aI FloatKind.f32 (u32.wrap x).toNat) (aI FloatKind.f32 (u32.wrap y).toNat))))]
theorem acJ (x y : Int) : aC IL f63 5 [] [.d .str K9, I x, I y] [] ah = bif !bz 1 x then ay [I 0] else bif !bz 1 y then ay [I 0] else bif (FloatKind.f32.format.read (aI FloatKind.f32 (u32.wrap x).toNat)).order (FloatKind.f32.format.read (aI FloatKind.f32 (u32.wrap x).toNat)) != some Ordering.eq then zr x y else zr x y := by kernel_rfl
theorem VB (x y : Int) : aC IL f63 5 [] [.d .str K9, I x, I y] [] ah = some (.ret [I (js .mul x y)], []) := by
 rw [acJ]; simp only [zr]
 have h := zl .mul x y
 unfold cw at h
 unfold js cw
 cases bz 1 x with
 | false => rfl
 | true =>
  cases bz 1 y with
  | false => rfl
  | true =>
   simp only [Bool.not_true, ax, Bool.and_true, ak]
   cases _ != some Ordering.eq with
   | false => exact h
   | true => exact h
def acK : List AV -> LHp -> Tq
 | [.d .str op, .d zI x, .d zI y], [] => bif decide (op = [77, 117, 108]) then .leaf (.ret [I (js .mul x y)]) [] else .no
 | _, _ => .no
theorem VC : bE 63 (ao acK) := by
 have h1 := bS (d := 5) (l := []) pA func63 call63
 refine aO fun args hs ae aF h' => ?_
 unfold acK at h'
 split at h'
 ·rename_i op x y
  cases hb : decide (op = [77, 117, 108]) with
  | false => rw [hb] at h'; cases h'
  | true =>
   rw [hb] at h'
   obtain rfl := aZ hb
   cases h'
   exact h1.okC (VB x y)
 ·cases h'
def agS (a : List AV) (h : LHp) : Tq := orT (acK a h) (JB a h)
theorem VD : bE 63 (ao agS) := jO VC sn
noncomputable def gAm : Env := g78.add 63 (ao agS)
theorem CN : gAm.Good := pB.add VD
noncomputable def zt : Env := gAm.withRound (qv gAm [])
theorem CO : zt.Good := CN.withRound (qw CN bX [])
noncomputable def J7 (x y : ca) (ts : List ca) (ds : ag) (v : bp) (each cM m ch g3 : Int) (aP gV : ag) (h w N i s : Int) : LSt := ⟨aw 7 [(0, .ref 7), (1, .op 2 [] 0), (2, .op 1 [] 0), (3, .op 0 [] 0), (12, I N), (13, I i)], Hi x y ts ds v each cM m ch g3 aP gV h w s, 16⟩
theorem acL (x y : ca) (ts : List ca) (ds : ag) (v : bp) (each cM m ch g3 : Int) (aP gV : ag) (h w s : Int) : aC zt f110 7 [(1, [0, 1, 2, 3, 12, 13])] [.ref 7, .op 2 [] 0, .op 1 [] 0, .op 0 [] 0] (Hi x y ts ds v each cM m ch g3 aP gV h w s) ah = (hlp zt cr) iQ _ (J7 x y ts ds v each cM m ch g3 aP gV h w (i64.wrap (v.2.2.1 * v.2.2.2.1)) 0 s) (aW 0 (bA prog 8 f110.results.toList ah)) := (bI [1] cr rfl).trans (by obtain ⟨hl, h⟩ := bw zt cr; rw [h]; kernel_rfl)
theorem CP (x y : ca) (ts : List ca) (ds : ag) (v : bp) (each cM m ch g3 : Int) (aP gV : ag) (h w N i s : Int) (n : Nat) {R : Type} (k : AEx -> LSt -> Option R) : lp zt cr iQ (n + 1) (J7 x y ts ds v each cM m ch g3 aP gV h w N i s) k = bif decide (i < N) then (idx v.2.2.2.2.1 0).bind fun v1 => (v.2.2.2.2.1[0]?).bind fun v2 => (if v.2.2.2.1 = 0 then none else some (i64.wrap (i.tdiv v.2.2.2.1))).bind fun v3 => (idx v.2.2.2.2.2.1 0).bind fun v4 => (v.2.2.2.2.2.1[0]?).bind fun v5 => (idx v.2.2.2.2.1 1).bind fun v6 => (v.2.2.2.2.1[1]?).bind fun v7 => (if v.2.2.2.1 = 0 then none else some (i.tmod v.2.2.2.1)).bind fun v8 => (idx v.2.2.2.2.2.1 1).bind fun v9 => (v.2.2.2.2.2.1[1]?).bind fun v10 => bif decide (i64.wrap (i64.wrap (i64.wrap (h * v2) - v.2.2.2.2.2.2.1) + i64.wrap (v3 * v5)) < 0) then lp zt cr iQ n (J7 x y ts ds v each cM m ch g3 aP gV h w N (i64.wrap (i + 1)) s) k else bif decide (i64.wrap (i64.wrap (i64.wrap (h * v2) - v.2.2.2.2.2.2.1) + i64.wrap (v3 * v5)) >= v.1) then lp zt cr iQ n (J7 x y ts ds v each cM m ch g3 aP gV h w N (i64.wrap (i + 1)) s) k else bif decide (i64.wrap (i64.wrap (i64.wrap (w * v7) - v.2.2.2.2.2.2.2.1) + i64.wrap (v8 * v10)) < 0) then lp zt cr iQ n (J7 x y ts ds v each cM m ch g3 aP gV h w N (i64.wrap (i + 1)) s) k else bif decide (i64.wrap (i64.wrap (i64.wrap (w * v7) - v.2.2.2.2.2.2.2.1) + i64.wrap (v8 * v10)) >= v.2.1) then lp zt cr iQ n (J7 x y ts ds v each cM m ch g3 aP gV h w N (i64.wrap (i + 1)) s) k else (idx aP (i64.wrap (i64.wrap (i64.wrap (i64.wrap (i64.wrap (h * v2) - v.2.2.2.2.2.2.1) + i64.wrap (v3 * v5)) * v.2.1) + i64.wrap (i64.wrap (i64.wrap (w * v7) - v.2.2.2.2.2.2.2.1) + i64.wrap (v8 * v10))))).bind fun rp => (idx gV i).bind fun zE => lp zt cr iQ n (J7 x y ts ds v each cM m ch g3 aP gV h w N (i64.wrap (i + 1)) (js BinOp.add s (js BinOp.mul rp zE))) k else k (AEx.exit 0) { fr := aw 7 [(0, AV.ref 7), (1, AV.op 2 [] 0), (2, AV.op 1 [] 0), (3, AV.op 0 [] 0), (12, I N), (13, I i), (14, B false)], hp := [(0, al.box (I w)), (1, al.box (I h)), (2, al.box (AV.d Y4 v)), (3, al.box (AV.d (af).slice gV)), (4, al.box (AV.d (af).slice aP)), (5, al.box (I s)), (6, al.box (AV.d Y4 v)), (7, al.rc (gy.loop zq [(1, AV.d Y0.slice (x :: y :: ts)), (2, AV.d (af).slice ds), (9, AV.op 6 [] 0), (21, AV.op 5 [] 0), (23, AV.op 4 [] 0), (24, AV.op 3 [] 0), (97, I cM), (100, I (i64.wrap (g3 * each))), (108, AV.op 6 [9] 11), (117, I (i64.wrap (i64.wrap (m * each) + ch)))] xx.ready))], nx := 16 } := by kernel_rfl
def cvN (aP gV : ag) (v : bp) (h w : Int) (s : Int) (i : Nat) : Int := bif rL v h w i then js .add s (js .mul (aP.getD (mU v h w i).toNat 0) (gV.getD i 0)) else s
def OY (aP gV : ag) (v : bp) (h w s : Int) : Int := (List.range (v.2.2.1 * v.2.2.2.1).toNat).foldl (cvN aP gV v h w) s
theorem acM (x y : ca) (ts : List ca) (ds : ag) (v : bp) (each cM m ch g3 : Int) (aP gV : ag) (h w s : Int) : aC zt f110 7 [(1, [0, 1, 2, 3, 12, 13])] [.ref 7, .op 2 [] 0, .op 1 [] 0, .op 0 [] 0] (Hi x y ts ds v each cM m ch g3 aP gV h w s) ah = lp zt cr iQ fu (J7 x y ts ds v each cM m ch g3 aP gV h w (i64.wrap (v.2.2.1 * v.2.2.2.1)) 0 s) G8 := (acL x y ts ds v each cM m ch g3 aP gV h w s).trans (by kernel_rfl)
theorem OZ (x y : ca) (ts : List ca) (ds : ag) (v : bp) (each cM m ch g3 : Int) (aP gV : ag) (h w N i s : Int) : G8 (AEx.exit 0) ⟨aw 7 [(0, .ref 7), (1, .op 2 [] 0), (2, .op 1 [] 0), (3, .op 0 [] 0), (12, I N), (13, I i), (14, B false)], Hi x y ts ds v each cM m ch g3 aP gV h w s, 16⟩ = some (.ret [], Hi x y ts ds v each cM m ch g3 aP gV h w s) := by kernel_rfl
theorem VE {x y : ca} {ts : List ca} {ds : ag} {v : bp} {each cM m ch g3 : Int} {aP gV : ag} {h w s0 : Int} (hv : mV v aP.length) (hw2 : (v.2.2.1 * v.2.2.2.1).toNat <= gV.length) :
  aC zt f110 7 [(1, [0, 1, 2, 3, 12, 13])] [.ref 7, .op 2 [] 0, .op 1 [] 0, .op 0 [] 0] (Hi x y ts ds v each cM m ch g3 aP gV h w s0) ah = some (.ret [], Hi x y ts ds v each cM m ch g3 aP gV h w (OY aP gV v h w s0)) := by
 have hm : maxLen = 9223372036854775807 := by decide
 have hb : v.2.2.1 * v.2.2.2.1 <= 65536 * 65536 := Int.mul_le_mul hv.kh.2 hv.kw.2 hv.kw.1 (by omega)
 have PD : 0 <= v.2.2.1 * v.2.2.2.1 := Int.mul_nonneg hv.kh.1 hv.kw.1
 have e : i64.wrap (v.2.2.1 * v.2.2.2.1) = (((v.2.2.1 * v.2.2.2.1).toNat : Nat) : Int) := by rw [aJ (by omega) (by omega)]; omega
 rw [acM, e]
 have sc : ∀ (l : List Nat) (s : Int), cm (fun (s : Int) (i : Nat) => Nx.go (R := aq × LHp) (cvN aP gV v h w s i)) (fun s => some (.ret [], Hi x y ts ds v each cM m ch g3 aP gV h w s)) l s = some (.ret [], Hi x y ts ds v each cM m ch g3 aP gV h w (l.foldl (cvN aP gV v h w) s)) := by
  intro l
  induction l with
  | nil => intro p; rfl
  | cons i l ih => intro p; exact ih _
 refine (iE (N := (v.2.2.1 * v.2.2.2.1).toNat) (T := fun n s => lp zt cr iQ n s G8) (st := fun (i : Int) (s : Int) => J7 x y ts ds v each cM m ch g3 aP gV h w (((v.2.2.1 * v.2.2.2.1).toNat : Nat) : Int) i s) (f := fun (s : Int) (i : Nat) => Nx.go (cvN aP gV v h w s i)) (fin := fun (s : Int) => some (.ret [], Hi x y ts ds v each cM m ch g3 aP gV h w s)) (fun (_ : Nat) (_ : Int) => True) (by omega) ?_ ?_ (a := s0) trivial).trans (sc _ _)
 ·rintro i s n _ hi hw hd
  refine .inl ⟨_, rfl, trivial, ?_⟩
  have hkw : v.2.2.2.1 ≠ 0 := fun h0 => by rw [h0, Int.mul_zero] at hi; simp at hi
  have s0 : idx v.2.2.2.2.1 0 = some (v.2.2.2.2.1.getD 0 0) := aK (i := 0) (by rw [hv.ss]; omega)
  have s1 : idx v.2.2.2.2.1 1 = some (v.2.2.2.2.1.getD 1 0) := aK (i := 1) (by rw [hv.ss]; omega)
  have d0 : idx v.2.2.2.2.2.1 0 = some (v.2.2.2.2.2.1.getD 0 0) := aK (i := 0) (by rw [hv.ds]; omega)
  have d1 : idx v.2.2.2.2.2.1 1 = some (v.2.2.2.2.2.1.getD 1 0) := aK (i := 1) (by rw [hv.ds]; omega)
  have q : ∀ (l : ag) (j : Nat), j < l.length -> l[j]? = some (l.getD j 0) := fun l j hj => by rw [List.getD_eq_getElem?_getD, List.getElem?_eq_getElem hj]; rfl
  have s0' := q v.2.2.2.2.1 0 (by rw [hv.ss]; omega)
  have s1' := q v.2.2.2.2.1 1 (by rw [hv.ss]; omega)
  have d0' := q v.2.2.2.2.2.1 0 (by rw [hv.ds]; omega)
  have d1' := q v.2.2.2.2.2.1 1 (by rw [hv.ds]; omega)
  have gw : idx gV (i : Int) = some (gV.getD i 0) := aK (by omega)
  have hs := CP x y ts ds v each cM m ch g3 aP gV h w (((v.2.2.1 * v.2.2.2.1).toNat : Nat) : Int) (i : Int) s n G8
  have ey : i64.wrap (i64.wrap (i64.wrap (h * v.2.2.2.2.1.getD 0 0) - v.2.2.2.2.2.2.1) + i64.wrap (i64.wrap ((i : Int).tdiv v.2.2.2.1) * v.2.2.2.2.2.1.getD 0 0)) = Db v h i := rfl
  have ex : i64.wrap (i64.wrap (i64.wrap (w * v.2.2.2.2.1.getD 1 0) - v.2.2.2.2.2.2.2.1) + i64.wrap ((i : Int).tmod v.2.2.2.1 * v.2.2.2.2.2.1.getD 1 0)) = Dc v w i := rfl
  have ea : i64.wrap (i64.wrap (Db v h i * v.2.1) + Dc v w i) = mU v h w i := rfl
  have rQ : decide ((i : Int) < (((v.2.2.1 * v.2.2.2.1).toNat : Nat) : Int)) = true := hd
  rw [rQ, ak, s0, aA, s0', aA, if_neg hkw, aA, d0, aA, d0', aA, s1, aA, s1', aA, if_neg hkw, aA, d1, aA, d1', aA, ey, ex, ea, hw, gw] at hs
  have et : cvN aP gV v h w s i = bif rL v h w i then js .add s (js .mul (aP.getD (mU v h w i).toNat 0) (gV.getD i 0)) else s := rfl
  have ei : rL v h w i = (!decide (Db v h i < 0) && (!decide (Db v h i >= v.1) && (!decide (Dc v w i < 0) && !decide (Dc v w i >= v.2.1)))) := rfl
  have xu : rL v h w i = true -> idx aP (mU v h w i) = some (aP.getD (mU v h w i).toNat 0) := fun hq => yQ (sq hv hq).1 (sq hv hq).2
  show lp zt cr iQ (n + 1) (J7 x y ts ds v each cM m ch g3 aP gV h w (((v.2.2.1 * v.2.2.2.1).toNat : Nat) : Int) (i : Int) s) G8 = lp zt cr iQ n (J7 x y ts ds v each cM m ch g3 aP gV h w (((v.2.2.1 * v.2.2.2.1).toNat : Nat) : Int) ((i + 1 : Nat) : Int) (cvN aP gV v h w s i)) G8
  refine hs.trans ?_
  rw [et]
  cases c1 : decide (Db v h i < 0) with
  | true => rw [c1] at ei; rw [ei]; rfl
  | false =>
   rw [c1] at ei
   rw [ax]
   cases c2 : decide (Db v h i >= v.1) with
   | true => rw [c2] at ei; rw [ei]; rfl
   | false =>
    rw [c2] at ei
    rw [ax]
    cases c3 : decide (Dc v w i < 0) with
    | true => rw [c3] at ei; rw [ei]; rfl
    | false =>
     rw [c3] at ei
     rw [ax]
     cases c4 : decide (Dc v w i >= v.2.1) with
     | true => rw [c4] at ei; rw [ei]; rfl
     | false =>
      rw [c4] at ei
      have ei : rL v h w i = true := ei
      rw [ax, xu ei, aA, ei, ak]
      rfl
 ·rintro s n _ hd
  have rQ : decide ((((v.2.2.1 * v.2.2.2.1).toNat : Nat) : Int) < (((v.2.2.1 * v.2.2.2.1).toNat : Nat) : Int)) = false := hd
  show lp zt cr iQ (n + 1) (J7 x y ts ds v each cM m ch g3 aP gV h w (((v.2.2.1 * v.2.2.2.1).toNat : Nat) : Int) (((v.2.2.1 * v.2.2.2.1).toNat : Nat) : Int) s) G8 = _
  rw [CP, rQ, ax]
  exact OZ _ _ _ _ _ _ _ _ _ _ _ _ _ _ _ _ _
noncomputable def ee : FnE := au zt f110 7 [(1, [0, 1, 2, 3, 12, 13])]
theorem VF : bE 110 ee := bS CO func110 call110
theorem VG (args : List AV) (hs : LHp) {R : Type} (k : aq -> LHp -> Option R) : ee.run args hs k = aC zt f110 7 [(1, [0, 1, 2, 3, 12, 13])] args hs k := rfl
theorem O0 {x y : ca} {ts : List ca} {ds : ag} {v : bp} {each cM m ch g3 : Int} {aP gV : ag} {h w s0 : Int} (hv : mV v aP.length) (hw2 : (v.2.2.1 * v.2.2.2.1).toNat <= gV.length) {R : Type} (k : aq -> LHp -> Option R) :
  ee.run [.ref 7, .op 2 [] 0, .op 1 [] 0, .op 0 [] 0] (Hi x y ts ds v each cM m ch g3 aP gV h w s0) k = k (.ret []) (Hi x y ts ds v each cM m ch g3 aP gV h w (OY aP gV v h w s0)) :=
 (VG _ _ k).trans (OG CO (VE hv hw2) k)
theorem Hj {E : Env} {cf : Cfg} {ids : List Nat} {c : Code} {n : Nat} {s : LSt} {R : Type} {k : AEx -> LSt -> Option R} : lp E cf c (n + 1) s k = exC E cf c s (rB E cf ids (hlp E cf) c n k) := by
 rw [← mI (ids := ids), ← r8 (ids := ids)]
 rfl
noncomputable def NXc (F : FnE) (n : Nat) (k : AEx -> LSt -> Option (aq × LHp)) : AEx -> LSt -> Option (aq × LHp) := rB (iz F) bl [9, 15] (hlp (iz F) bl) u5 n k
noncomputable def KRf (F : FnE) (K : AEx -> LSt -> Option (aq × LHp)) : AEx -> LSt -> Option (aq × LHp) := (aW 4 (aW 3 (Sl (iz F) bl (rfp (iz F) bl) agO K)))
theorem VH (F : FnE) (x y : ca) (ts : List ca) (ds : ag) (v : bp) (each kern cM N i : Int) (o c : ag) (m ch s v1 v2 v3 : Int) (v4 v5 v6 v7 : ag) (v8 v9 : Int) (s' : Int) (n : Nat) (k : AEx -> LSt -> Option (aq × LHp)) : FZ [9, 8, 7, 6, 5, 4, 2, 10] (JK x y ts ds v each kern cM N i o c m ch s v1 v2 v3 v4 v5 v6 v7 v8 v9) 11 (rfK (frR x y ts ds v each kern cM N i o c m ch s v1 v2 v3 v4 v5 v6 v7 v8 v9) (JK x y ts ds v each kern cM N i o c m ch s v1 v2 v3 v4 v5 v6 v7 v8 v9) 10 (KRf F (NXc F n k))) (rfP (frR x y ts ds v each kern cM N i o c m ch s v1 v2 v3 v4 v5 v6 v7 v8 v9) (JK x y ts ds v each kern cM N i o c m ch s v1 v2 v3 v4 v5 v6 v7 v8 v9) 10 (KRf F (NXc F n k))) (.ret []) (Hi x y ts ds v each cM m ch v3 v5 v7 v8 v9 s') = lp (iz F) bl u5 n (zp x y ts ds v each kern cM N i o c m (i64.wrap (ch + 1)) s') k := by
 rw [← mI (ids := [9, 15])]
 kernel_rfl
theorem slP {x : ag} {n : Nat} (h : n <= x.length) : (if 0 <= ((n : Nat) : Int) /\ ((n : Nat) : Int) <= Int.ofNat x.length /\ Int.ofNat x.length <= Int.ofNat x.length then some (List.drop ((n : Nat) : Int).toNat (List.take (Int.ofNat x.length).toNat x)) else none) = some (x.drop n) := by
 rw [if_pos ⟨by omega, by simp only [aT]; omega, Int.le_refl _⟩, Int.toNat_natCast]
 show some (List.drop n (List.take x.length x)) = _
 rw [List.take_length]
theorem slQ {x : ag} {m : Nat} (h : m <= x.length) : (if (0 : Int) <= 0 /\ 0 <= ((m : Nat) : Int) /\ ((m : Nat) : Int) <= Int.ofNat x.length then some (List.drop 0 (List.take ((m : Nat) : Int).toNat x)) else none) = some (x.take m) := by
 rw [if_pos ⟨by omega, by omega, by simp only [aT]; omega⟩, Int.toNat_natCast]
 rfl
theorem JL {x y : ca} {ts : List ca} {ds : ag} {v : bp} {each cM N i : Int} {o c : ag} {m ch s v1 v2 v3 v8 v9 : Int} {p q pn kn n : Nat} {k : AEx -> LSt -> Option (aq × LHp)} (hd : decide (ch < each) = true) (h1 : idx c 0 = some v1) (h2 : idx x.2.1 1 = some v2) (h3 : (if cM = 0 then none else some (i64.wrap (m.tdiv cM))) = some v3) (PJ : v.2.2.2.2.2.2.2.2.2.1 = (pn : Int)) (hA : i64.wrap (i64.wrap (i64.wrap (i64.wrap (v1 * v2) + i64.wrap (v3 * each)) + ch) * (pn : Int)) = ((p : Nat) : Int)) (hp : p + pn <= x.2.2.1.length) (hB : i64.wrap (i64.wrap (i64.wrap (m * each) + ch) * (kn : Int)) = ((q : Nat) : Int)) (hq : q + kn <= y.2.2.1.length) (h8 : idx c 2 = some v8) (h9 : idx c 3 = some v9) (hv : mV v pn) (hw : (v.2.2.1 * v.2.2.2.1).toNat = kn) :
  lp (iz ee) bl u5 (n + 1) (zp x y ts ds v each (kn : Int) cM N i o c m ch s) k = lp (iz ee) bl u5 n (zp x y ts ds v each (kn : Int) cM N i o c m (i64.wrap (ch + 1)) (OY ((x.2.2.1.drop p).take pn) ((y.2.2.1.drop q).take kn) v v8 v9 s)) k := by
 rw [Hj (ids := [9, 15]), ← yA]
 refine (OX (rfp (iz ee) bl) ee x y ts ds v each (kn : Int) cM N i o c m ch s (NXc ee n k)).trans ?_
 have l1 : pn <= (x.2.2.1.drop p).length := by rw [List.length_drop]; omega
 have l2 : kn <= (y.2.2.1.drop q).length := by rw [List.length_drop]; omega
 have l3 : ((x.2.2.1.drop p).take pn).length = pn := by rw [List.length_take]; omega
 have l4 : ((y.2.2.1.drop q).take kn).length = kn := by rw [List.length_take]; omega
 rw [hd, ak, h1, aA, h2, aA, h3, aA, PJ, hA, slP (by omega), aA, slQ l1, aA, hB, slP (by omega), aA, slQ l2, aA, h8, aA, h9, aA]
 have e := acI ee x y ts ds v each (kn : Int) cM N i o c m ch s v1 v2 v3 (x.2.2.1.drop p) ((x.2.2.1.drop p).take pn) (y.2.2.1.drop q) ((y.2.2.1.drop q).take kn) v8 v9 (KRf ee (NXc ee n k))
 rw [O0 (by rw [l3]; exact hv) (by rw [l4, hw]; exact Nat.le_refl _), VH] at e
 refine Eq.trans ?_ e
 unfold agQ frR hpR rfp KRf cRf
 rw [PJ, hA, hB]
 rfl
def u6 (x y : ca) (ts : List ca) (ds : ag) (v : bp) (each kern cM N i : Int) (o c : ag) (m : Int) (ch : Int) (s : Int) : LSt := { fr := aw 8 [(1, .d (.slice (Y0)) (x :: y :: ts)), (2, .d (.slice af) ds), (7, AV.op 0 [] 0), (8, AV.op 1 [] 0), (9, AV.op 2 [] 0), (11, I each), (12, I kern), (13, I cM), (16, AV.os 3 0), (17, I i), (18, .d (.slice af) c), (20, I m), (21, AV.op 4 [] 0), (69, I N), (70, I i), (82, I each), (83, I ch), (84, B false)], hp := agP x y v o s, nx := 5 }
theorem VI {x y : ca} {ts : List ca} {ds : ag} {v : bp} {each kern cM N i : Int} {o c : ag} {m ch s : Int} {n : Nat} {k : AEx -> LSt -> Option (aq × LHp)} (hd : decide (ch < each) = false) :
  lp (iz ee) bl u5 (n + 1) (zp x y ts ds v each kern cM N i o c m ch s) k = k (.exit 2) (u6 x y ts ds v each kern cM N i o c m ch s) := by
 rw [Hj (ids := [9, 15]), ← yA]
 refine (OX (rfp (iz ee) bl) ee x y ts ds v each kern cM N i o c m ch s (NXc ee n k)).trans ?_
 rw [hd, ax]
 rfl
def cvC (xd yd : ag) (v : bp) (a b : Int) (px pn q0 kn E : Nat) (s : Int) : Int := (List.range E).foldl (fun (s : Int) (ch : Nat) => OY ((xd.drop ((px + ch) * pn)).take pn) ((yd.drop ((q0 + ch) * kn)).take kn) v a b s) s
theorem O1 {x y : ca} {ts : List ca} {ds : ag} {v : bp} {N i : Int} {o c : ag} {v8 v9 : Int} {c0 X1 Pr mm E pn kn : Nat} {k : AEx -> LSt -> Option (aq × LHp)} (h1 : idx c 0 = some (c0 : Int)) (h2 : idx x.2.1 1 = some (X1 : Int)) (hPr : 1 <= Pr) (PJ : v.2.2.2.2.2.2.2.2.2.1 = (pn : Int)) (h8 : idx c 2 = some v8) (h9 : idx c 3 = some v9) (hv : mV v pn) (hw : (v.2.2.1 * v.2.2.2.1).toNat = kn)
  (b1 : c0 * X1 + mm / Pr * E + E <= 2147483648) (b2 : (c0 * X1 + mm / Pr * E + E) * pn <= x.2.2.1.length) (b3 : x.2.2.1.length <= 2147483648) (b4 : mm * E + E <= 2147483648) (b5 : (mm * E + E) * kn <= y.2.2.1.length) (b6 : y.2.2.1.length <= 2147483648) (b7 : mm <= 2147483648) :
  lp (iz ee) bl u5 fu (zp x y ts ds v (E : Int) (kn : Int) (Pr : Int) N i o c (mm : Int) 0 0) k = k (.exit 2) (u6 x y ts ds v (E : Int) (kn : Int) (Pr : Int) N i o c (mm : Int) (E : Int) (cvC x.2.2.1 y.2.2.1 v v8 v9 (c0 * X1 + mm / Pr * E) pn (mm * E) kn E 0)) := by
 have hm : maxLen = 9223372036854775807 := by decide
 have sc : ∀ (l : List Nat) (s : Int), cm (fun (s : Int) (ch : Nat) => Nx.go (R := aq × LHp) (OY ((x.2.2.1.drop ((c0 * X1 + mm / Pr * E + ch) * pn)).take pn) ((y.2.2.1.drop ((mm * E + ch) * kn)).take kn) v v8 v9 s)) (fun s => k (.exit 2) (u6 x y ts ds v (E : Int) (kn : Int) (Pr : Int) N i o c (mm : Int) (E : Int) s)) l s = k (.exit 2) (u6 x y ts ds v (E : Int) (kn : Int) (Pr : Int) N i o c (mm : Int) (E : Int) (l.foldl (fun (s : Int) (ch : Nat) => OY ((x.2.2.1.drop ((c0 * X1 + mm / Pr * E + ch) * pn)).take pn) ((y.2.2.1.drop ((mm * E + ch) * kn)).take kn) v v8 v9 s) s)) := by
  intro l
  induction l with
  | nil => intro p; rfl
  | cons i l ih => intro p; exact ih _
 refine (iE (N := E) (T := fun n s => lp (iz ee) bl u5 n s k) (st := fun (ch : Int) (s : Int) => zp x y ts ds v (E : Int) (kn : Int) (Pr : Int) N i o c (mm : Int) ch s) (f := fun (s : Int) (ch : Nat) => Nx.go (OY ((x.2.2.1.drop ((c0 * X1 + mm / Pr * E + ch) * pn)).take pn) ((y.2.2.1.drop ((mm * E + ch) * kn)).take kn) v v8 v9 s)) (fin := fun s => k (.exit 2) (u6 x y ts ds v (E : Int) (kn : Int) (Pr : Int) N i o c (mm : Int) (E : Int) s)) (fun (_ : Nat) (_ : Int) => True) (by omega) ?_ ?_ (a := 0) trivial).trans (sc _ _)
 ·intro ch s n _ hi vm hd
  refine .inl ⟨_, rfl, trivial, ?_⟩
  have hd : decide ((ch : Int) < (E : Int)) = true := hd
  have dv : mm / Pr <= mm := Nat.div_le_self _ _
  have w3 : i64.wrap (((mm : Nat) : Int).tdiv ((Pr : Nat) : Int)) = ((mm / Pr : Nat) : Int) := by
   rw [show ((mm : Nat) : Int).tdiv ((Pr : Nat) : Int) = ((mm / Pr : Nat) : Int) from (Int.ofNat_tdiv _ _).symm]
   generalize mm / Pr = z at dv ⊢
   exact aJ (by omega) (by omega)
  have h3 : (if ((Pr : Nat) : Int) = 0 then none else some (i64.wrap (((mm : Nat) : Int).tdiv ((Pr : Nat) : Int)))) = some ((mm / Pr : Nat) : Int) := by rw [if_neg (by omega), w3]
  have le1 : (c0 * X1 + mm / Pr * E + ch + 1) * pn <= (c0 * X1 + mm / Pr * E + E) * pn := Nat.mul_le_mul_right _ (by omega)
  have le2 : (mm * E + ch + 1) * kn <= (mm * E + E) * kn := Nat.mul_le_mul_right _ (by omega)
  rw [Nat.succ_mul] at le1 le2
  have hA : i64.wrap (i64.wrap (i64.wrap (i64.wrap (((c0 : Nat) : Int) * ((X1 : Nat) : Int)) + i64.wrap (((mm / Pr : Nat) : Int) * ((E : Nat) : Int))) + ((ch : Nat) : Int)) * (pn : Int)) = (((c0 * X1 + mm / Pr * E + ch) * pn : Nat) : Int) := by
   rw [← Int.natCast_mul, ← Int.natCast_mul]
   generalize c0 * X1 = z1 at b1 b2 le1 ⊢
   generalize mm / Pr * E = z2 at b1 b2 le1 ⊢
   have u1 : i64.wrap ((z1 : Nat) : Int) = ((z1 : Nat) : Int) := aJ (by omega) (by omega)
   have u2 : i64.wrap ((z2 : Nat) : Int) = ((z2 : Nat) : Int) := aJ (by omega) (by omega)
   have u3 : i64.wrap ((z1 + z2 : Nat) : Int) = ((z1 + z2 : Nat) : Int) := aJ (by omega) (by omega)
   have u4 : i64.wrap ((z1 + z2 + ch : Nat) : Int) = ((z1 + z2 + ch : Nat) : Int) := aJ (by omega) (by omega)
   rw [u1, u2, ← Int.natCast_add, u3, ← Int.natCast_add, u4, ← Int.natCast_mul]
   generalize (z1 + z2 + ch) * pn = z3 at le1 ⊢
   exact aJ (by omega) (by omega)
  have hB : i64.wrap (i64.wrap (i64.wrap (((mm : Nat) : Int) * ((E : Nat) : Int)) + ((ch : Nat) : Int)) * (kn : Int)) = (((mm * E + ch) * kn : Nat) : Int) := by
   rw [← Int.natCast_mul]
   generalize mm * E = z1 at b4 b5 le2 ⊢
   have u1 : i64.wrap ((z1 : Nat) : Int) = ((z1 : Nat) : Int) := aJ (by omega) (by omega)
   have u4 : i64.wrap ((z1 + ch : Nat) : Int) = ((z1 + ch : Nat) : Int) := aJ (by omega) (by omega)
   rw [u1, ← Int.natCast_add, u4, ← Int.natCast_mul]
   generalize (z1 + ch) * kn = z3 at le2 ⊢
   exact aJ (by omega) (by omega)
  refine (JL hd h1 h2 h3 PJ hA (by omega) hB (by omega) h8 h9 hv hw).trans ?_
  rw [vm]
 ·intro s n _ hd
  exact VI hd
noncomputable def KC1 (F : FnE) (n : Nat) (k : AEx -> LSt -> Option (aq × LHp)) : AEx -> LSt -> Option (aq × LHp) := (aW 2 (bt (iz F) bl [9, 15] (hlp (iz F) bl) agL (aW 1 (bt (iz F) bl [9, 15] (hlp (iz F) bl) agM (rB (iz F) bl [9, 15] (hlp (iz F) bl) oJ n k)))))
theorem acN (F : FnE) (x y : ca) (ds : ag) (v : bp) (each kern cM N i : Int) (o c : ag) (m ch s : Int) (n : Nat) (k : AEx -> LSt -> Option (aq × LHp)) : KC1 F n k (.exit 2) (u6 x y [] ds v each kern cM N i o c m ch s) =
  (idx o i).bind fun _ => (fJ o i.toNat s).bind fun o' => lp (iz F) bl oJ n (rP x y [] ds v each kern cM N (i64.wrap (i + 1)) o') k :=
 Eq.trans (b := (idx o i).bind fun _ => (fJ o i.toNat s).bind fun o' => lpH (iz F) bl [9, 15] (hlp (iz F) bl) oJ n (rP x y [] ds v each kern cM N (i64.wrap (i + 1)) o') k) (by kernel_rfl) (by simp only [mI])
theorem acO (F : FnE) (x y : ca) (bs : ca) (ds : ag) (v : bp) (each kern cM N i : Int) (o c : ag) (m ch s : Int) (n : Nat) (k : AEx -> LSt -> Option (aq × LHp)) : KC1 F n k (.exit 2) (u6 x y [bs] ds v each kern cM N i o c m ch s) =
  (idx bs.2.2.1 m).bind fun b => (idx o i).bind fun _ => (fJ o i.toNat (js .add s b)).bind fun o' => lp (iz F) bl oJ n (rP x y [bs] ds v each kern cM N (i64.wrap (i + 1)) o') k :=
 Eq.trans (b := (idx bs.2.2.1 m).bind fun b => (idx o i).bind fun _ => (fJ o i.toNat (js .add s b)).bind fun o' => lpH (iz F) bl [9, 15] (hlp (iz F) bl) oJ n (rP x y [bs] ds v each kern cM N (i64.wrap (i + 1)) o') k) (by kernel_rfl) (by simp only [mI])
theorem O2 (F : FnE) (x y : ca) (ts : List ca) (ds : ag) (v : bp) (each kern cM N i : Int) (o c : ag) (m : Int) (k : AEx -> LSt -> Option (aq × LHp)) : hlp (iz F) bl u5 (aq × LHp) (zp x y ts ds v each kern cM N i o c m 0 0) k = lp (iz F) bl u5 fu (zp x y ts ds v each kern cM N i o c m 0 0) k := rfl
noncomputable def KCz (F : FnE) : AEx -> LSt -> Option (aq × LHp) := (aW 0 (bt (iz F) bl [9, 15] (hlp (iz F) bl) (cR (cR (cR (cR (cR (cR (cR (cR (cR rk))))))))) (bA prog 0 f24.results.toList ah)))
theorem W5 (F : FnE) (x y : ca) (ts : List ca) (ds : ag) (v : bp) (each kern cM N i : Int) (o : ag) : uu (.slice af) (KCz F (.exit 0) { fr := aw 8 [(1, .d (.slice (Y0)) (x :: y :: ts)), (2, .d (.slice af) ds), (7, AV.op 0 [] 0), (8, AV.op 1 [] 0), (9, AV.op 2 [] 0), (11, I each), (12, I kern), (13, I cM), (16, AV.os 3 0), (69, I N), (70, I i), (71, B false)], hp := VA x y v o, nx := 4 }) = some (.ret [.d (.slice af) o], []) := by kernel_rfl
def nz (ds : ag) (i j : Nat) : Nat := (pX (ds.map Int.toNat) i).getD j 0
def W6 (xn yn : Nat) (ds : ag) (X1 Pr E pn kn i : Nat) : Prop := nz ds i 0 * X1 + nz ds i 1 / Pr * E + E <= 2147483648 /\ (nz ds i 0 * X1 + nz ds i 1 / Pr * E + E) * pn <= xn /\ nz ds i 1 * E + E <= 2147483648 /\ (nz ds i 1 * E + E) * kn <= yn /\ nz ds i 1 <= 2147483648
instance (xn yn : Nat) (ds : ag) (X1 Pr E pn kn i : Nat) : Decidable (W6 xn yn ds X1 Pr E pn kn i) := by unfold W6; infer_instance
def nN (xd yd : ag) (v : bp) (ds : ag) (X1 Pr E pn kn i : Nat) : Int := cvC xd yd v (nz ds i 2 : Nat) (nz ds i 3 : Nat) (nz ds i 0 * X1 + nz ds i 1 / Pr * E) pn (nz ds i 1 * E) kn E 0
def W7 (x y : ca) (ts : List ca) (ds : ag) (v : bp) (each kern cM N : Int) (i : Int) (o : ag) : LSt := { fr := aw 8 [(1, .d (.slice (Y0)) (x :: y :: ts)), (2, .d (.slice af) ds), (7, AV.op 0 [] 0), (8, AV.op 1 [] 0), (9, AV.op 2 [] 0), (11, I each), (12, I kern), (13, I cM), (16, AV.os 3 0), (69, I N), (70, I i), (71, B false)], hp := VA x y v o, nx := 4 }
theorem kz {ds : ag} (hl : ds.length = 4) (i j : Nat) (hj : j < 4) : idx (ints (pX (ds.map Int.toNat) i)) (j : Int) = some ((nz ds i j : Nat) : Int) := by
 have hlen : (pX (ds.map Int.toNat) i).length = 4 := by rw [Hf, List.length_map]; exact hl
 have e := aK (xs := ints (pX (ds.map Int.toNat) i)) (i := j) (by rw [gQ, hlen]; exact hj)
 rw [e]
 congr 1
 unfold nz ints
 rw [List.getD_eq_getElem?_getD, List.getD_eq_getElem?_getD, List.getElem?_map]
 rw [List.getElem?_eq_getElem (by omega)]
 rfl
theorem JM {x y : ca} {ds : ag} {v : bp} {X1 Pr E pn kn N : Nat} {k : AEx -> LSt -> Option (aq × LHp)} (hc : aB ds = 0) (hN : bf (ds.map Int.toNat) = N) (hN2 : N <= 65536) (hl : ds.length = 4) (h2 : idx x.2.1 1 = some (X1 : Int)) (hPr : 1 <= Pr) (PJ : v.2.2.2.2.2.2.2.2.2.1 = (pn : Int)) (hv : mV v pn) (hw : (v.2.2.1 * v.2.2.2.1).toNat = kn) (b3 : x.2.2.1.length <= 2147483648) (b6 : y.2.2.1.length <= 2147483648) (hP : ∀ i, i < N -> W6 x.2.2.1.length y.2.2.1.length ds X1 Pr E pn kn i) {o : ag} (ho : o.length = N) :
  lp (iz ee) bl oJ fu (rP x y [] ds v (E : Int) (kn : Int) (Pr : Int) (N : Int) 0 o) k = k (.exit 0) (W7 x y [] ds v (E : Int) (kn : Int) (Pr : Int) (N : Int) (N : Int) ((List.range N).foldl (fun (o : ag) (i : Nat) => o.set i (nN x.2.2.1 y.2.2.1 v ds X1 Pr E pn kn i)) o)) := by
 have hm : maxLen = 9223372036854775807 := by decide
 have sc : ∀ (l : List Nat) (o : ag), cm (fun (o : ag) (i : Nat) => Nx.go (R := aq × LHp) (o.set i (nN x.2.2.1 y.2.2.1 v ds X1 Pr E pn kn i))) (fun o => k (.exit 0) (W7 x y [] ds v (E : Int) (kn : Int) (Pr : Int) (N : Int) (N : Int) o)) l o = k (.exit 0) (W7 x y [] ds v (E : Int) (kn : Int) (Pr : Int) (N : Int) (N : Int) (l.foldl (fun (o : ag) (i : Nat) => o.set i (nN x.2.2.1 y.2.2.1 v ds X1 Pr E pn kn i)) o)) := by
  intro l
  induction l with
  | nil => intro p; rfl
  | cons i l ih => intro p; exact ih _
 refine (iE (N := N) (T := fun n s => lp (iz ee) bl oJ n s k) (st := fun (i : Int) (o : ag) => rP x y [] ds v (E : Int) (kn : Int) (Pr : Int) (N : Int) i o) (f := fun (o : ag) (i : Nat) => Nx.go (o.set i (nN x.2.2.1 y.2.2.1 v ds X1 Pr E pn kn i))) (fin := fun o => k (.exit 0) (W7 x y [] ds v (E : Int) (kn : Int) (Pr : Int) (N : Int) (N : Int) o)) (fun (_ : Nat) (o : ag) => o.length = N) (by omega) ?_ ?_ (a := o) ho).trans (sc _ _)
 ·intro i o n hI hi vm hd
  refine .inl ⟨_, rfl, by rw [List.length_set]; exact hI, ?_⟩
  have hd : decide ((i : Int) < (N : Int)) = true := hd
  obtain ⟨q1, q2, q3, q4, q5⟩ := hP i hi
  have hg : decide (aB ds = 0 /\ 0 <= (i : Int) /\ (i : Int).toNat < bf (List.map Int.toNat ds)) = true := aE ⟨hc, by omega, by rw [hN, Int.toNat_natCast]; exact hi⟩
  have go : idx o (i : Int) = some (o.getD i 0) := aK (by omega)
  have gs : fJ o (i : Int).toNat (nN x.2.2.1 y.2.2.1 v ds X1 Pr E pn kn i) = some (o.set i (nN x.2.2.1 y.2.2.1 v ds X1 Pr E pn kn i)) := by rw [Int.toNat_natCast]; unfold fJ; rw [show Nat.blt i o.length = true from Nat.ble_eq_true_of_le (by omega)]; rfl
  have hs := zo ee x y [] ds v (E : Int) (kn : Int) (Pr : Int) (N : Int) (i : Int) o n k
  rw [hd, ak, hg, ak, Int.toNat_natCast, show idx (ints (pX (List.map Int.toNat ds) i)) 1 = some ((nz ds i 1 : Nat) : Int) from kz hl i 1 (by omega), aA] at hs
  have h9 := (O2 ee x y [] ds v (E : Int) (kn : Int) (Pr : Int) (N : Int) (i : Int) o (ints (pX (List.map Int.toNat ds) i)) ((nz ds i 1 : Nat) : Int) (KC1 ee n k)).trans (O1 (k := KC1 ee n k) (kz hl i 0 (by omega)) h2 hPr PJ (kz hl i 2 (by omega)) (kz hl i 3 (by omega)) hv hw q1 q2 b3 q3 q4 b6 q5)
  rw [acN, go, aA] at h9
  have h10 := hs.trans h9
  refine h10.trans ?_
  have gs' := gs
  unfold nN at gs'
  rw [gs', aA, vm]
  rfl
 ·intro o n hI hd
  have hd : decide ((N : Int) < (N : Int)) = false := hd
  show lp (iz ee) bl oJ (n + 1) (rP x y [] ds v (E : Int) (kn : Int) (Pr : Int) (N : Int) (N : Int) o) k = _
  rw [zo, hd, ax]
  rfl
def n7 (xd yd bd : ag) (v : bp) (ds : ag) (X1 Pr E pn kn i : Nat) : Int := js .add (nN xd yd v ds X1 Pr E pn kn i) (bd.getD (nz ds i 1) 0)
theorem EY {x y bs : ca} {ds : ag} {v : bp} {X1 Pr E pn kn N : Nat} {k : AEx -> LSt -> Option (aq × LHp)} (hc : aB ds = 0) (hN : bf (ds.map Int.toNat) = N) (hN2 : N <= 65536) (hl : ds.length = 4) (h2 : idx x.2.1 1 = some (X1 : Int)) (hPr : 1 <= Pr) (PJ : v.2.2.2.2.2.2.2.2.2.1 = (pn : Int)) (hv : mV v pn) (hw : (v.2.2.1 * v.2.2.2.1).toNat = kn) (b3 : x.2.2.1.length <= 2147483648) (b6 : y.2.2.1.length <= 2147483648) (hP : ∀ i, i < N -> (W6 x.2.2.1.length y.2.2.1.length ds X1 Pr E pn kn i /\ nz ds i 1 < bs.2.2.1.length)) {o : ag} (ho : o.length = N) :
  lp (iz ee) bl oJ fu (rP x y [bs] ds v (E : Int) (kn : Int) (Pr : Int) (N : Int) 0 o) k = k (.exit 0) (W7 x y [bs] ds v (E : Int) (kn : Int) (Pr : Int) (N : Int) (N : Int) ((List.range N).foldl (fun (o : ag) (i : Nat) => o.set i (n7 x.2.2.1 y.2.2.1 bs.2.2.1 v ds X1 Pr E pn kn i)) o)) := by
 have hm : maxLen = 9223372036854775807 := by decide
 have sc : ∀ (l : List Nat) (o : ag), cm (fun (o : ag) (i : Nat) => Nx.go (R := aq × LHp) (o.set i (n7 x.2.2.1 y.2.2.1 bs.2.2.1 v ds X1 Pr E pn kn i))) (fun o => k (.exit 0) (W7 x y [bs] ds v (E : Int) (kn : Int) (Pr : Int) (N : Int) (N : Int) o)) l o = k (.exit 0) (W7 x y [bs] ds v (E : Int) (kn : Int) (Pr : Int) (N : Int) (N : Int) (l.foldl (fun (o : ag) (i : Nat) => o.set i (n7 x.2.2.1 y.2.2.1 bs.2.2.1 v ds X1 Pr E pn kn i)) o)) := by
  intro l
  induction l with
  | nil => intro p; rfl
  | cons i l ih => intro p; exact ih _
 refine (iE (N := N) (T := fun n s => lp (iz ee) bl oJ n s k) (st := fun (i : Int) (o : ag) => rP x y [bs] ds v (E : Int) (kn : Int) (Pr : Int) (N : Int) i o) (f := fun (o : ag) (i : Nat) => Nx.go (o.set i (n7 x.2.2.1 y.2.2.1 bs.2.2.1 v ds X1 Pr E pn kn i))) (fin := fun o => k (.exit 0) (W7 x y [bs] ds v (E : Int) (kn : Int) (Pr : Int) (N : Int) (N : Int) o)) (fun (_ : Nat) (o : ag) => o.length = N) (by omega) ?_ ?_ (a := o) ho).trans (sc _ _)
 ·intro i o n hI hi vm hd
  refine .inl ⟨_, rfl, by rw [List.length_set]; exact hI, ?_⟩
  have hd : decide ((i : Int) < (N : Int)) = true := hd
  obtain ⟨⟨q1, q2, q3, q4, q5⟩, q6⟩ := hP i hi
  have gb : idx bs.2.2.1 ((nz ds i 1 : Nat) : Int) = some (bs.2.2.1.getD (nz ds i 1) 0) := aK q6
  have hg : decide (aB ds = 0 /\ 0 <= (i : Int) /\ (i : Int).toNat < bf (List.map Int.toNat ds)) = true := aE ⟨hc, by omega, by rw [hN, Int.toNat_natCast]; exact hi⟩
  have go : idx o (i : Int) = some (o.getD i 0) := aK (by omega)
  have gs : fJ o (i : Int).toNat (n7 x.2.2.1 y.2.2.1 bs.2.2.1 v ds X1 Pr E pn kn i) = some (o.set i (n7 x.2.2.1 y.2.2.1 bs.2.2.1 v ds X1 Pr E pn kn i)) := by rw [Int.toNat_natCast]; unfold fJ; rw [show Nat.blt i o.length = true from Nat.ble_eq_true_of_le (by omega)]; rfl
  have hs := zo ee x y [bs] ds v (E : Int) (kn : Int) (Pr : Int) (N : Int) (i : Int) o n k
  rw [hd, ak, hg, ak, Int.toNat_natCast, show idx (ints (pX (List.map Int.toNat ds) i)) 1 = some ((nz ds i 1 : Nat) : Int) from kz hl i 1 (by omega), aA] at hs
  have h9 := (O2 ee x y [bs] ds v (E : Int) (kn : Int) (Pr : Int) (N : Int) (i : Int) o (ints (pX (List.map Int.toNat ds) i)) ((nz ds i 1 : Nat) : Int) (KC1 ee n k)).trans (O1 (k := KC1 ee n k) (kz hl i 0 (by omega)) h2 hPr PJ (kz hl i 2 (by omega)) (kz hl i 3 (by omega)) hv hw q1 q2 b3 q3 q4 b6 q5)
  rw [acO, gb, aA, go, aA] at h9
  have h10 := hs.trans h9
  refine h10.trans ?_
  have gs' := gs
  unfold n7 nN at gs'
  rw [gs', aA, vm]
  rfl
 ·intro o n hI hd
  have hd : decide ((N : Int) < (N : Int)) = false := hd
  show lp (iz ee) bl oJ (n + 1) (rP x y [bs] ds v (E : Int) (kn : Int) (Pr : Int) (N : Int) (N : Int) o) k = _
  rw [zo, hd, ax]
  rfl
def kA : aj := gF
def u7 (aa : bk) (xs ys : ag) : bp := kc aa xs (ys.getD 2 0) (ys.getD 3 0)
def CQ (ys : ag) : Nat := (ys.getD 1 0).toNat
def vM (aa : bk) (ys : ag) : Int := i64.wrap ((ys.getD 0 0).tdiv (aX aa kA 1))
def EZ (ys : ag) : Nat := (ys.getD 2 0 * ys.getD 3 0).toNat
def qd (ds : ag) : Nat := bf (ds.map Int.toNat)
def l0 (aa : bk) (xs ys ds : ag) (xn yn : Nat) : Bool :=
 CG aa xs && (decide (aa.length <= 9223372036854775807 /\ ys.length = 4 /\ ds.length = 4 /\ aB ds = 0) && (decide (aX aa kA 1 ≠ 0 /\ 1 <= vM aa ys /\ 0 <= ys.getD 1 0 /\ 0 <= xs.getD 1 0 /\ 0 <= (u7 aa xs ys).2.2.2.2.2.2.2.2.2.1) && (rM (u7 aa xs ys) (u7 aa xs ys).2.2.2.2.2.2.2.2.2.1.toNat && decide (xn <= 2147483648 /\ yn <= 2147483648))))
def O3 (aa : bk) (xs ys ds : ag) (xn yn : Nat) : Bool := decide (∀ i, i < qd ds -> W6 xn yn ds (xs.getD 1 0).toNat (vM aa ys).toNat (CQ ys) (u7 aa xs ys).2.2.2.2.2.2.2.2.2.1.toNat (EZ ys) i)
theorem O4 {op nm : aj} {ins : List (aj)} {out : aj} {aa : bk} {x y : ca} {ts : List ca} {ds : ag} (hG : l0 aa x.2.1 y.2.1 ds x.2.2.1.length y.2.2.1.length = true) :
  aC (iz ee) f24 8 [(9, [1, 2, 7, 8, 9, 11, 12, 13, 16, 69, 70]), (15, [1, 2, 7, 8, 9, 11, 12, 13, 16, 17, 18, 20, 21, 69, 70, 82, 83]), (20, [0, 1, 2, 3, 9, 21, 23, 24, 25, 32, 65, 77, 97, 100, 108, 117, 131, 132, 133, 134, 135, 136, 137, 138, 139, 140, 141, 142, 143, 144])] [dh op nm ins out aa, .d (.slice (Y0)) (x :: y :: ts), .d (.slice af) ds] [] ah = lp (iz ee) bl oJ fu (rP x y ts ds (u7 aa x.2.1 y.2.1) (CQ y.2.1 : Int) (EZ y.2.1 : Int) ((vM aa y.2.1).toNat : Int) (qd ds : Int) 0 (List.replicate (qd ds) 0)) (KCz ee) := by
 unfold l0 at hG
 simp only [bg, decide_eq_true_eq] at hG
 obtain ⟨a1, ⟨a2, a3, a4, a5⟩, ⟨a6, a7, a8, a9, a10⟩, a11, a12, a13⟩ := hG
 have hv := sr a11
 have y0 : idx y.2.1 0 = some (y.2.1.getD 0 0) := aK (i := 0) (by omega)
 have y1 : idx y.2.1 1 = some (y.2.1.getD 1 0) := aK (i := 1) (by omega)
 have y2 : idx y.2.1 2 = some (y.2.1.getD 2 0) := aK (i := 2) (by omega)
 have y3 : idx y.2.1 3 = some (y.2.1.getD 3 0) := aK (i := 3) (by omega)
 have es : (gF : aj) = kA := rfl
 obtain ⟨_, _, _, c4⟩ := fL a5
 obtain ⟨D, eD, eD2, o1, o2, o3⟩ := lr a5
 have hcn : aR ds = ((qd ds : Nat) : Int) := by
  unfold qd
  rw [c4, ← eD2]
  conv => lhs; rw [eD]
  exact j3 D
 have hN : qd ds <= 65536 := by unfold qd; rw [← eD2]; exact o2
 have key : ∀ a b : Int, 0 <= a -> a <= 65536 -> 0 <= b -> b <= 65536 -> i64.wrap (a * b) = (((a * b).toNat : Nat) : Int) := fun a b p1 p2 p3 p4 => by
  have hb : a * b <= 65536 * 65536 := Int.mul_le_mul p2 p4 p3 (by omega)
  have PD : 0 <= a * b := Int.mul_nonneg p1 p3
  rw [aJ (by omega) (by omega)]
  omega
 have hk : i64.wrap (y.2.1.getD 2 0 * y.2.1.getD 3 0) = (EZ y.2.1 : Int) := key _ _ hv.kh.1 hv.kh.2 hv.kw.1 hv.kw.2
 have hE : y.2.1.getD 1 0 = (CQ y.2.1 : Int) := (Int.toNat_of_nonneg a8).symm
 have hPr : vM aa y.2.1 = ((vM aa y.2.1).toNat : Int) := (Int.toNat_of_nonneg (Int.le_trans (by decide) a7)).symm
 refine (acG ee op nm ins out aa x y ts ds).trans ?_
 rw [y2, aA, y3, aA, a1, ak, aE a2, ak, y1, aA, y0, aA, es, if_neg a6, aA, aE (show ds.length <= 9223372036854775807 by omega), ak, hcn, if_pos (show 0 <= ((qd ds : Nat) : Int) /\ ((qd ds : Nat) : Int) <= 4294967296 by omega), aA, Int.toNat_natCast, List.length_replicate, hk, hE, show i64.wrap ((y.2.1.getD 0 0).tdiv (aX aa kA 1)) = ((vM aa y.2.1).toNat : Int) from hPr]
 rfl
def O5 (aa : bk) (xs ys ds : ag) (xn yn bn : Nat) : Bool := decide (∀ i, i < qd ds -> W6 xn yn ds (xs.getD 1 0).toNat (vM aa ys).toNat (CQ ys) (u7 aa xs ys).2.2.2.2.2.2.2.2.2.1.toNat (EZ ys) i /\ nz ds i 1 < bn)
def E0 (aa : bk) (xs xd ys yd ds : ag) : ag := (List.range (qd ds)).foldl (fun (o : ag) (i : Nat) => o.set i (nN xd yd (u7 aa xs ys) ds (xs.getD 1 0).toNat (vM aa ys).toNat (CQ ys) (u7 aa xs ys).2.2.2.2.2.2.2.2.2.1.toNat (EZ ys) i)) (List.replicate (qd ds) 0)
def E2 (aa : bk) (xs xd ys yd bd ds : ag) : ag := (List.range (qd ds)).foldl (fun (o : ag) (i : Nat) => o.set i (n7 xd yd bd (u7 aa xs ys) ds (xs.getD 1 0).toNat (vM aa ys).toNat (CQ ys) (u7 aa xs ys).2.2.2.2.2.2.2.2.2.1.toNat (EZ ys) i)) (List.replicate (qd ds) 0)
def agU : List AV -> LHp -> Tq
 | [.d Y2 (_, _, _, _, aa, _), .d (.slice Y0) [x, y], .d zS ds], [] => .br (l0 aa x.2.1 y.2.1 ds (List.length x.2.2.1) (List.length y.2.2.1) && O3 aa x.2.1 y.2.1 ds (List.length x.2.2.1) (List.length y.2.2.1)) (dat (.slice af) (E0 aa x.2.1 x.2.2.1 y.2.1 y.2.2.1 ds)) .no
 | [.d Y2 (_, _, _, _, aa, _), .d (.slice Y0) [x, y, b], .d zS ds], [] => .br (l0 aa x.2.1 y.2.1 ds (List.length x.2.2.1) (List.length y.2.2.1) && O5 aa x.2.1 y.2.1 ds (List.length x.2.2.1) (List.length y.2.2.1) (List.length b.2.2.1)) (dat (.slice af) (E2 aa x.2.1 x.2.2.1 y.2.1 y.2.2.1 b.2.2.1 ds)) .no
 | _, _ => .no
theorem Hk : bE 24 (ao agU) := by
 have h1 : bE 24 (au (iz ee) f24 8 [(9, [1, 2, 7, 8, 9, 11, 12, 13, 16, 69, 70]), (15, [1, 2, 7, 8, 9, 11, 12, 13, 16, 17, 18, 20, 21, 69, 70, 82, 83]), (20, [0, 1, 2, 3, 9, 21, 23, 24, 25, 32, 65, 77, 97, 100, 108, 117, 131, 132, 133, 134, 135, 136, 137, 138, 139, 140, 141, 142, 143, 144])]) := jN (OW VF) bX func24 call24 (by decide +kernel) rfl
 refine aO fun args hs ae aF h' => ?_
 unfold agU at h'
 split at h'
 ·rename_i op nm ins out aa u x y ds
  obtain ⟨hb, h2⟩ := Tq.br_no h'
  rw [bg] at hb
  obtain ⟨hG, hH⟩ := hb
  have h3 := O4 (op := op) (nm := nm) (ins := ins) (out := out) (ts := []) hG
  unfold l0 at hG
  simp only [bg, decide_eq_true_eq] at hG
  obtain ⟨a1, ⟨a2, a3, a4, a5⟩, ⟨a6, a7, a8, a9, a10⟩, a11, a12, a13⟩ := hG
  obtain ⟨D, eD, eD2, o1, o2, o3⟩ := lr a5
  have hN : qd ds <= 65536 := by unfold qd; rw [← eD2]; exact o2
  have hx4 : List.length x.2.1 = 4 := by
   unfold CG at a1
   simp only [bg, decide_eq_true_eq] at a1
   exact a1.2.2.2.2
  have g2 : idx x.2.1 1 = some (((x.2.1.getD 1 0).toNat : Nat) : Int) := (aK (xs := x.2.1) (i := 1) (by omega)).trans (congrArg some (Int.toNat_of_nonneg a9).symm)
  have h4 := h3.trans (JM (k := KCz ee) (N := qd ds) (kn := EZ y.2.1) (E := CQ y.2.1) (Pr := (vM aa y.2.1).toNat) (o := List.replicate (qd ds) 0) a5 rfl hN a4 g2 (by omega) (Int.toNat_of_nonneg a10).symm (sr a11) rfl a12 a13 (aZ hH) List.length_replicate)
  refine h1.okB (.slice af) (Eq.trans ?_ h2)
  refine (congrArg (uu (.slice af)) h4).trans ?_
  exact W5 _ _ _ _ _ _ _ _ _ _ _ _
 ·rename_i op nm ins out aa u x y b ds
  obtain ⟨hb, h2⟩ := Tq.br_no h'
  rw [bg] at hb
  obtain ⟨hG, hH⟩ := hb
  have h3 := O4 (op := op) (nm := nm) (ins := ins) (out := out) (ts := [b]) hG
  unfold l0 at hG
  simp only [bg, decide_eq_true_eq] at hG
  obtain ⟨a1, ⟨a2, a3, a4, a5⟩, ⟨a6, a7, a8, a9, a10⟩, a11, a12, a13⟩ := hG
  obtain ⟨D, eD, eD2, o1, o2, o3⟩ := lr a5
  have hN : qd ds <= 65536 := by unfold qd; rw [← eD2]; exact o2
  have hx4 : List.length x.2.1 = 4 := by
   unfold CG at a1
   simp only [bg, decide_eq_true_eq] at a1
   exact a1.2.2.2.2
  have g2 : idx x.2.1 1 = some (((x.2.1.getD 1 0).toNat : Nat) : Int) := (aK (xs := x.2.1) (i := 1) (by omega)).trans (congrArg some (Int.toNat_of_nonneg a9).symm)
  have h4 := h3.trans (EY (k := KCz ee) (N := qd ds) (kn := EZ y.2.1) (E := CQ y.2.1) (Pr := (vM aa y.2.1).toNat) (o := List.replicate (qd ds) 0) a5 rfl hN a4 g2 (by omega) (Int.toNat_of_nonneg a10).symm (sr a11) rfl a12 a13 (aZ hH) List.length_replicate)
  refine h1.okB (.slice af) (Eq.trans ?_ h2)
  refine (congrArg (uu (.slice af)) h4).trans ?_
  exact W5 _ _ _ _ _ _ _ _ _ _ _ _
 ·cases h'
def O6 : List AV -> LHp -> Tq
 | [.d Y2 n, .d Y0 t, .d Y4 v, .d zS ds], [] => .br (rO (List.length t.2.2.1) v ds) (dat (.slice af) (CJ n.1 t.2.2.1 v v.2.2.2.2.2.2.2.2.1.toNat v.2.2.2.2.2.2.2.2.2.1.toNat (ds.getD 2 0).toNat (ds.getD 3 0).toNat)) .no
 | _, _ => .no
theorem O7 : bE 26 (ao O6) := by
 refine aO fun args hs ae aF h' => ?_
 unfold O6 at h'
 split at h'
 ·rename_i n t v ds
  obtain ⟨op, x⟩ := n
  obtain ⟨kd, xs, data, u⟩ := t
  exact Vs.ok _ _ _ _ h'
 ·cases h'
def CR (aa : bk) (ts : List ca) (ds : ag) : Bool := match ts with
 | [x, y] => l0 aa x.2.1 y.2.1 ds x.2.2.1.length y.2.2.1.length && O3 aa x.2.1 y.2.1 ds x.2.2.1.length y.2.2.1.length
 | [x, y, b] => l0 aa x.2.1 y.2.1 ds x.2.2.1.length y.2.2.1.length && O5 aa x.2.1 y.2.1 ds x.2.2.1.length y.2.2.1.length b.2.2.1.length
 | _ => false
def xk (aa : bk) (ts : List ca) (ds : ag) : ag := match ts with
 | [x, y] => E0 aa x.2.1 x.2.2.1 y.2.1 y.2.2.1 ds
 | [x, y, b] => E2 aa x.2.1 x.2.2.1 y.2.1 y.2.2.1 b.2.2.1 ds
 | _ => []
def O8 : List AV -> LHp -> Tq
 | [.d Y2 n, .d (.slice Y0) ts, .d zS ds], [] => .br (CR n.2.2.2.2.1 ts ds) (dat (.slice af) (xk n.2.2.2.2.1 ts ds)) .no
 | _, _ => .no
theorem O9 : bE 24 (ao O8) := by
 refine aO fun args hs ae aF h' => ?_
 unfold O8 at h'
 split at h'
 ·rename_i n ts ds
  obtain ⟨op, nm, ins, out, aa, u⟩ := n
  match ts, h' with
  | [x, y], h' => exact Hk.ok _ _ _ _ h'
  | [x, y, b], h' => exact Hk.ok _ _ _ _ h'
  | [], h' => cases h'
  | [_], h' => cases h'
  | _ :: _ :: _ :: _ :: _, h' => cases h'
 ·cases h'
noncomputable def PU : Env := ((((Sf.add 23 bgE).add 25 uC).add 27 acn).add 26 (ao O6)).add 24 (ao O8)
theorem Pa : PU.Good := ((((lb.add abX).add iF).add Ha).add O7).add O9
theorem qJ (op nm : aj) (ins : List (aj)) (out : aj) (aa : bk) (x : ca) (ts : List ca) : aC PU f11 7 [] [dh op nm ins out aa, .d (.slice (Y0)) (x :: ts)] [] ah = bif Da (op, nm, ins, out, aa, PUnit.unit) (x :: ts) then bif qH (op, nm, ins, out, aa, PUnit.unit) (x :: ts) != 0 then ay [(I 0).pr (AV.nils.pr (AV.nils.pr (AV.d Ty.unit PUnit.unit))), I (qH (op, nm, ins, out, aa, PUnit.unit) (x :: ts))] else bif op == vH then bif CR aa (x :: ts) (j1 (op, nm, ins, out, aa, PUnit.unit) (x :: ts)).2.2.1 then ay [(I (j1 (op, nm, ins, out, aa, PUnit.unit) (x :: ts)).2.1).pr ((AV.d (af).slice (j1 (op, nm, ins, out, aa, PUnit.unit) (x :: ts)).2.2.1).pr ((AV.d (af).slice (xk aa (x :: ts) (j1 (op, nm, ins, out, aa, PUnit.unit) (x :: ts)).2.2.1)).pr (AV.d Ty.unit PUnit.unit))), I 0] else none else bif op == rC then bif aD aa then (idx (ai aa fS []) 0).bind fun v5 => (idx (ai aa fS []) 1).bind fun v6 => bif CG aa x.2.1 then bif rO (List.length x.2.2.1) (kc aa x.2.1 v5 v6) (j1 (op, nm, ins, out, aa, PUnit.unit) (x :: ts)).2.2.1 then ay [(I (j1 (op, nm, ins, out, aa, PUnit.unit) (x :: ts)).2.1).pr ((AV.d (af).slice (j1 (op, nm, ins, out, aa, PUnit.unit) (x :: ts)).2.2.1).pr ((AV.d (af).slice (CJ op x.2.2.1 (kc aa x.2.1 v5 v6) (i64.wrap (List.getD x.2.1 0 0 * List.getD x.2.1 1 0)).toNat (i64.wrap (List.getD x.2.1 2 0 * List.getD x.2.1 3 0)).toNat (Int.toNat (List.getD (j1 (op, nm, ins, out, aa, PUnit.unit) (x :: ts)).2.2.1 2 0)) (Int.toNat (List.getD (j1 (op, nm, ins, out, aa, PUnit.unit) (x :: ts)).2.2.1 3 0)))).pr (AV.d Ty.unit PUnit.unit))), I 0] else none else none else none else bif op == Ec then bif aD aa then (idx (ai aa fS []) 0).bind fun v6 => (idx (ai aa fS []) 1).bind fun v7 => bif CG aa x.2.1 then bif rO (List.length x.2.2.1) (kc aa x.2.1 v6 v7) (j1 (op, nm, ins, out, aa, PUnit.unit) (x :: ts)).2.2.1 then ay [(I (j1 (op, nm, ins, out, aa, PUnit.unit) (x :: ts)).2.1).pr ((AV.d (af).slice (j1 (op, nm, ins, out, aa, PUnit.unit) (x :: ts)).2.2.1).pr ((AV.d (af).slice (CJ op x.2.2.1 (kc aa x.2.1 v6 v7) (i64.wrap (List.getD x.2.1 0 0 * List.getD x.2.1 1 0)).toNat (i64.wrap (List.getD x.2.1 2 0 * List.getD x.2.1 3 0)).toNat (Int.toNat (List.getD (j1 (op, nm, ins, out, aa, PUnit.unit) (x :: ts)).2.2.1 2 0)) (Int.toNat (List.getD (j1 (op, nm, ins, out, aa, PUnit.unit) (x :: ts)).2.2.1 3 0)))).pr (AV.d Ty.unit PUnit.unit))), I 0] else none else none else none else bif op == XJ then (idx x.2.1 2).bind fun v6 => (idx x.2.1 3).bind fun v7 => bif CG aa x.2.1 then bif rO (List.length x.2.2.1) (kc aa x.2.1 v6 v7) (j1 (op, nm, ins, out, aa, PUnit.unit) (x :: ts)).2.2.1 then ay [(I (j1 (op, nm, ins, out, aa, PUnit.unit) (x :: ts)).2.1).pr ((AV.d (af).slice (j1 (op, nm, ins, out, aa, PUnit.unit) (x :: ts)).2.2.1).pr ((AV.d (af).slice (CJ op x.2.2.1 (kc aa x.2.1 v6 v7) (i64.wrap (List.getD x.2.1 0 0 * List.getD x.2.1 1 0)).toNat (i64.wrap (List.getD x.2.1 2 0 * List.getD x.2.1 3 0)).toNat (Int.toNat (List.getD (j1 (op, nm, ins, out, aa, PUnit.unit) (x :: ts)).2.2.1 2 0)) (Int.toNat (List.getD (j1 (op, nm, ins, out, aa, PUnit.unit) (x :: ts)).2.2.1 3 0)))).pr (AV.d Ty.unit PUnit.unit))), I 0] else none else none else ay [(I 0).pr (AV.nils.pr (AV.nils.pr (AV.d Ty.unit PUnit.unit))), I 5] else none := by kernel_rfl
def CS (r : Option (aq × LHp)) : Option (ca × Int) := match r with
 | some (.ret [.d ((.pair (.int .i64) (.pair (.slice (.int .i64)) (.pair (.slice (.int .i64)) .unit)))) t, .d (.int .i64) e], []) => some (t, e)
 | _ => none
theorem JN {r : Option (aq × LHp)} {p : ca × Int} (h : CS r = some p) : r = some (.ret [.d (Y0) p.1, I p.2], []) := by
 unfold CS at h
 split at h
 ·cases h; rfl
 ·cases h
noncomputable def Pb (n : dL) (ts : List ca) : Option (ca × Int) := CS (lO [(Y0), af] (aC PU f11 7 [] [.d (Y2) n, .d (.slice (Y0)) ts] [] ah))
noncomputable def VJ (n : dL) (ts : List ca) : Bool := (Pb n ts).isSome
noncomputable def pY (n : dL) (ts : List ca) : ca := ((Pb n ts).getD ((0, [], [], ()), 0)).1
noncomputable def Dd (n : dL) (ts : List ca) : Int := ((Pb n ts).getD ((0, [], [], ()), 0)).2
noncomputable def doF : List AV -> LHp -> Tq
 | [.d Y2 n, .d (.slice Y0) ts], [] => .br (VJ n ts) (.leaf (.ret [.d (Y0) (pY n ts), I (Dd n ts)]) []) .no
 | _, _ => .no
theorem acP : bE 11 (ao doF) := by
 have h1 := bS (d := 7) (l := []) Pa func11 call11
 refine aO fun args hs ae aF h' => ?_
 unfold doF at h'
 split at h'
 ·rename_i n ts
  obtain ⟨hb, h2⟩ := Tq.br_no h'
  refine h1.okBQ [(Y0), af] (Eq.trans ?_ h2)
  unfold VJ at hb
  unfold pY Dd
  cases hq : Pb n ts with
  | none => rw [hq] at hb; cases hb
  | some p => exact JN hq
 ·cases h'
noncomputable def doE : FnE := cU [(Y2), .slice (Y0)] (ao doF)
theorem Pc : bE 11 doE := bF acP
theorem kN (g : Nat -> Int) : ∀ (n : Nat) (o : ag), n <= o.length -> (List.range n).foldl (fun (o : ag) (i : Nat) => o.set i (g i)) o = (List.range n).map g ++ o.drop n
 | 0, o, _ => rfl
 | n + 1, o, h => by
  have hl : ((List.range n).map g).length = n := by rw [List.length_map, List.length_range]
  rw [List.range_succ, List.foldl_append, kN g n o (by omega), List.map_append, List.drop_eq_getElem_cons (by omega : n < o.length)]
  show (List.map g (List.range n) ++ o[n] :: List.drop (n + 1) o).set n (g n) = _
  rw [List.set_append, hl, if_neg (Nat.lt_irrefl n), Nat.sub_self, List.append_assoc]
  rfl
theorem CT (aa : bk) (xs xd ys yd ds : ag) : E0 aa xs xd ys yd ds = (List.range (qd ds)).map fun i => nN xd yd (u7 aa xs ys) ds (xs.getD 1 0).toNat (vM aa ys).toNat (CQ ys) (u7 aa xs ys).2.2.2.2.2.2.2.2.2.1.toNat (EZ ys) i := by
 unfold E0
 rw [kN _ _ _ (by rw [List.length_replicate]; exact Nat.le_refl _), List.drop_eq_nil_of_le (by rw [List.length_replicate]; exact Nat.le_refl _), List.append_nil]
theorem CU (aa : bk) (xs xd ys yd bd ds : ag) : E2 aa xs xd ys yd bd ds = (List.range (qd ds)).map fun i => n7 xd yd bd (u7 aa xs ys) ds (xs.getD 1 0).toNat (vM aa ys).toNat (CQ ys) (u7 aa xs ys).2.2.2.2.2.2.2.2.2.1.toNat (EZ ys) i := by
 unfold E2
 rw [kN _ _ _ (by rw [List.length_replicate]; exact Nat.le_refl _), List.drop_eq_nil_of_le (by rw [List.length_replicate]; exact Nat.le_refl _), List.append_nil]
noncomputable def gLv : Env := Sf.add 11 doE
theorem Pd : gLv.Good := lb.add Pc
theorem Pe : aC gLv f8 7 [] [] [] ah = some (.ret [B true], []) := by kernel_rfl
def CV : List AV -> LHp -> Option (aq × LHp)
 | [], [] => some (.ret [B true], [])
 | _, _ => none
theorem Pf : bE 8 (fnE CV) := by
 have h1 := bS (d := 7) (l := []) Pd func8 call8
 refine ⟨fun args hs k => ?_, fun args hs ae aF h => ?_⟩
 ·simp only [fnE]
  cases CV args hs <;> rfl
 ·have h' : (CV args hs).bind (fun p => ah p.1 p.2) = some (ae, aF) := h
  unfold CV at h'
  split at h'
  ·cases h'
   exact h1.okC Pe
  ·cases h'
noncomputable def W8 : Code := bD f4
noncomputable def vN : Code := cL (cL (cR (cL (cR (cR (cR (cR (cR (cR (cR (cR (cR (cR (cR (cR (cR W8))))))))))))))))
noncomputable def agV : Code := cR (cR (cR (cR (cR (cR (cR (cR (cR (cR (cR (cR (cR (cR W8)))))))))))))
noncomputable def eM : Cfg := ⟨149, 8, 0, [(18, [2, 7, 12, 14, 15])], true⟩
noncomputable def lu : Env := (((g83.add 11 doE).add 9 (ao abZ)).add 7 (ao ab1)).add 8 (fnE CV)
theorem JO : lu.Good := (((uo.add Pc).add Vb).add Vc).add Pf
noncomputable def W9 : AEx -> LSt -> Option (aq × LHp) := (aW 0 (bt lu eM [18] (hlp lu eM) agV (bA prog 0 f4.results.toList ah)))
theorem acQ (n : dL) (x : ca) (ts : List ca) (which : Int) : aC lu f4 8 [(18, [2, 7, 12, 14, 15])] [.d (Y2) n, .d (.slice (Y0)) (x :: ts), I which] [] ah = bif decide ((x :: ts).length <= 2147483648) then bif !zi (x :: ts) then ay [B true] else bif Int.ofNat (List.length x.2.1) != 4 then ay [B true] else bif VJ n (x :: ts) then bif Dd n (x :: ts) != 0 then ay [B true] else (idx x.2.1 0).bind fun v5 => bif decide (v5 < 1) then ay [B true] else bif decide (which < 0) then (idx x.2.1 0).bind fun v8 => (if v8 = 0 then none else some ((i64.wrap (0 - i64.wrap (which + 1))).tmod v8)).bind fun v9 => (idx x.2.1 0).bind fun v10 => (if v10 = 0 then none else some (i64.wrap ((Int.ofNat (List.length x.2.2.1)).tdiv v10))).bind fun v11 => bif fg (x :: ts) && decide (ts.length <= 2147483640) then (idx x.2.1 1).bind fun vQ => (idx x.2.1 2).bind fun qN => (idx x.2.1 3).bind fun rp => (if 0 <= i64.wrap (v9 * v11) /\ i64.wrap (v9 * v11) <= i64.wrap (i64.wrap (v9 * v11) + v11) /\ i64.wrap (i64.wrap (v9 * v11) + v11) <= Int.ofNat (List.length x.2.2.1) then some (List.drop (i64.wrap (v9 * v11)).toNat (List.take (i64.wrap (i64.wrap (v9 * v11) + v11)).toNat x.2.2.1)) else none).bind fun zE => bif VJ n ((x.1, [1, vQ, qN, rp], zE, PUnit.unit) :: ts) then (idx x.2.1 0).bind fun zL => (if zL = 0 then none else some (i64.wrap ((Int.ofNat (List.length (pY n (x :: ts)).2.2.1)).tdiv zL))).bind fun xw => bif Dd n ((x.1, [1, vQ, qN, rp], zE, PUnit.unit) :: ts) != 0 then ay [B false] else bif Int.ofNat (List.length (pY n ((x.1, [1, vQ, qN, rp], zE, PUnit.unit) :: ts)).2.2.1) != xw then ay [B false] else (hlp lu eM) vN _ { fr := aw 8 [(2, I v9), (7, AV.op 0 [] 0), (12, AV.op 1 [] 0), (14, I xw), (15, I 0)], hp := [(0, al.box (AV.d Y0 (pY n (x :: ts)))), (1, al.box (AV.d Y0 (pY n ((x.1, [1, vQ, qN, rp], zE, PUnit.unit) :: ts))))], nx := 2 } W9 else none else none else (idx x.2.1 0).bind fun v8 => (if v8 = 0 then none else some (which.tmod v8)).bind fun v9 => (idx x.2.1 0).bind fun v10 => (if v10 = 0 then none else some (i64.wrap ((Int.ofNat (List.length x.2.2.1)).tdiv v10))).bind fun v11 => bif fg (x :: ts) && decide (ts.length <= 2147483640) then (idx x.2.1 1).bind fun vQ => (idx x.2.1 2).bind fun qN => (idx x.2.1 3).bind fun rp => (if 0 <= i64.wrap (v9 * v11) /\ i64.wrap (v9 * v11) <= i64.wrap (i64.wrap (v9 * v11) + v11) /\ i64.wrap (i64.wrap (v9 * v11) + v11) <= Int.ofNat (List.length x.2.2.1) then some (List.drop (i64.wrap (v9 * v11)).toNat (List.take (i64.wrap (i64.wrap (v9 * v11) + v11)).toNat x.2.2.1)) else none).bind fun zE => bif VJ n ((x.1, [1, vQ, qN, rp], zE, PUnit.unit) :: ts) then (idx x.2.1 0).bind fun zL => (if zL = 0 then none else some (i64.wrap ((Int.ofNat (List.length (pY n (x :: ts)).2.2.1)).tdiv zL))).bind fun xw => bif Dd n ((x.1, [1, vQ, qN, rp], zE, PUnit.unit) :: ts) != 0 then ay [B false] else bif Int.ofNat (List.length (pY n ((x.1, [1, vQ, qN, rp], zE, PUnit.unit) :: ts)).2.2.1) != xw then ay [B false] else (hlp lu eM) vN _ { fr := aw 8 [(2, I v9), (7, AV.op 0 [] 0), (12, AV.op 1 [] 0), (14, I xw), (15, I 0)], hp := [(0, al.box (AV.d Y0 (pY n (x :: ts)))), (1, al.box (AV.d Y0 (pY n ((x.1, [1, vQ, qN, rp], zE, PUnit.unit) :: ts))))], nx := 2 } W9 else none else none else none else none := (bI [18] eM rfl).trans (by obtain ⟨hl, h⟩ := bw lu eM; rw [h]; kernel_rfl)
theorem VK (n : dL) (which : Int) : aC lu f4 8 [(18, [2, 7, 12, 14, 15])] [.d (Y2) n, .d (.slice (Y0)) [], I which] [] ah = ay [B true] := (bI [18] eM rfl).trans (by obtain ⟨hl, h⟩ := bw lu eM; rw [h]; kernel_rfl)
theorem fh {α : Type} {c : Bool} {a b : Option α} (h1 : c = true -> a.isSome = true) (h2 : c = false -> b.isSome = true) : (bif c then a else b).isSome = true := by
 cases c with
 | true => exact h1 rfl
 | false => exact h2 rfl
def Pg : aj := tY
def CW : aj := vG
theorem Ph {op : aj} {aa : bk} {vs : cg} (hN : vs.length <= 9223372036854775807) (hA : aa.length <= 9223372036854775807)
  (hc : (op == ff) = true -> ∃ a, List.find? gj aa = some a) (h1 : (op == ff) = false -> ∃ v, idx vs 0 = some v)
  (hw : (op == Pg) = true -> ∃ v w, idx vs 1 = some v /\ idx vs 2 = some w) (hg : (op == CW) = true -> ∃ v, idx vs 1 = some v) : yX op aa vs = true := by
 unfold yX rI
 rw [yW]; simp only [cV, cB, si, ky, sj, sk, sl]
 simp only [GR, Ck, Cl, GS, N7, N8]
 rw [aE hN, aE hA]
 unfold ff at hc h1
 cases fX : op == tZ with
 | true =>
  obtain ⟨a, ha⟩ := hc fX
  rw [ak, ak, ha]
  rfl
 | false =>
  obtain ⟨v, hv⟩ := h1 fX
  rw [ax, hv, aA]
  simp only [ak]
  repeat' (first | (refine fh (fun hq => ?_) (fun _ => ?_)) | rfl)
  all_goals first
   | (obtain ⟨u, w, e1, e2⟩ := hw ‹(op == tY) = true›
      rw [e1, e2]
      simp only [aA]
      repeat' (first | (refine fh (fun hq => ?_) (fun _ => ?_)) | rfl))
   | (obtain ⟨u, e1⟩ := hg ‹(op == vG) = true›
      rw [e1]
      simp only [aA]
      repeat' (first | (refine fh (fun hq => ?_) (fun _ => ?_)) | rfl))
def CX (xs : ag) (vr : cg) (i : Int) : LSt := { fr := aw 8 [(3, .d (.slice af) xs), (132, .d (.slice (Y3)) vr), (133, I (Int.ofNat vr.length)), (134, I i)], hp := [], nx := 0 }
theorem agX (xs : ag) (vr : cg) (i : Int) (n : Nat) {R : Type} (k : AEx -> LSt -> Option R) : lp j0 eI Cx (n + 1) (CX xs vr i) k = bif decide (i < Int.ofNat vr.length) then (idx vr i).bind fun v1 => (if (0 : Int) <= 1 /\ (1 : Int) <= 2 /\ 2 <= Int.ofNat xs.length then some (List.drop 1 (List.take 2 xs)) else none).bind fun v2 => bif decide (List.length v1.2.2.1 <= 9223372036854775807) then bif !v1.2.2.1 == v2 then k (AEx.panic 131 4) { fr := aw 8 [(3, AV.d (af).slice xs), (5, AV.op 0 [] 0), (132, AV.d Y3.slice vr), (133, I (Int.ofNat vr.length)), (134, I i), (135, B true), (136, AV.ip Y3 v1), (137, AV.d Y3 v1), (138, AV.op 0 [2] 2), (139, AV.d (af).slice v1.2.2.1), (140, AV.d (af).slice xs), (141, AV.d (af).slice v2), (142, B (v1.2.2.1 == v2))], hp := [(0, al.box (AV.d Y3 v1)), (0, al.box ((AV.d Ty.str []).pr ((I 0).pr (AV.nils.pr (AV.d Ty.unit PUnit.unit)))))], nx := 1 } else lp j0 eI Cx n (CX xs vr (i64.wrap (i + 1))) k else none else k (AEx.exit 1) { fr := aw 8 [(3, AV.d (af).slice xs), (132, AV.d Y3.slice vr), (133, I (Int.ofNat vr.length)), (134, I i), (135, B false)], hp := [], nx := 0 } := by kernel_rfl
noncomputable def KBn : AEx -> LSt -> Option (aq × LHp) := (aW 1 (bt j0 eI [56] (hlp j0 eI) ago (aW 0 (bt j0 eI [56] (hlp j0 eI) (cR (cR (cR (cR G0)))) (bA prog 0 f105.results.toList ah)))))
theorem nA (c : Bool) (a b : Option (aq × LHp)) : zd (bif c then a else b) = bif c then zd a else zd b := by cases c <;> rfl
theorem vg {α : Type} (x : Option α) (f : α -> Option (aq × LHp)) : zd (x.bind f) = x.bind fun v => zd (f v) := by cases x <;> rfl
theorem vh : zd none = none := rfl
theorem sv (l : ag) : zd (some (.ret [.d (.slice af) l], [])) = some (0, l) := rfl
theorem zu (l : ag) : zd (some (.ret [.os 0 0], [(0, .arr 3 af 0 false l)])) = some (0, l) := rfl
theorem pZ (c : Int) : zd (some (.panic 131 c, [])) = bif !(c == 0) then some (c, []) else none := by
 cases h : c == 0 with
 | true =>
  have := eq_of_beq h
  subst this
  rfl
 | false =>
  unfold zd
  have e : dj (.slice af) (some (.panic 131 c, [])) = some (.panic 131 c, []) := rfl
  rw [e]
  show (bif Nat.beq _ _ && !(c == 0) then _ else _) = _
  rw [h]
  rfl
theorem sw (c : Int) (l : ag) : (bif c == 0 then some ((0, l) : Int × ag) else bif !(c == 0) then some (c, []) else none).isSome = true := by cases c == 0 <;> rfl
theorem acR {k r : Int} (h : vI k r = true) (h0 : 0 <= r) (h1 : r <= 6) : 0 <= lD k r /\ lD k r < r := by
 unfold vI at h
 rw [bg] at h
 have a1 := aZ h.1
 have a2 := aZ h.2
 rw [aJ (by omega) (by omega)] at a1
 unfold lD
 by_cases hk : k < 0
 ·rw [aE hk, ak, aJ (by omega) (by omega)]
  omega
 ·rw [de hk, ax]
  omega
theorem VL {n : dL} {vs : cg} {xs : ag} (hA : aD n.2.2.2.2.1 = true) (hx : xs.length <= 6) (hv1 : 1 <= vs.length) (hv2 : vs.length <= 2147483648) (hax : (dA n.2.2.2.2.1).length <= 2147483640) (hsh : (ai n.2.2.2.2.1 [115, 104, 97, 112, 101] []).length <= 2147483648)
  (hg : (n.1 == CW) = true -> ∃ v, idx vs 1 = some v /\ List.length v.2.2.1 <= 6) : mvG n vs xs = true := by
 obtain ⟨op, nm, ins, out, aa, u⟩ := n
 have hA : aD aa = true := hA
 have hax : (dA aa).length <= 2147483640 := hax
 have hsh : (ai aa rD []).length <= 2147483648 := hsh
 have hg : (op == vG) = true -> ∃ v, idx vs 1 = some v /\ List.length v.2.2.1 <= 6 := hg
 have hlen := bQ hA
 unfold mvG mvR
 rw [show gu (op, nm, ins, out, aa, u) vs = gu (op, nm, ins, out, aa, ()) vs from rfl, abJ]
 simp only [nA, vg, vh, sv, zu, pZ]
 rw [hA, aE (show xs.length <= 2147483648 by omega), aE hx, aE (show 1 <= vs.length /\ vs.length <= 2147483648 from ⟨hv1, hv2⟩), aE hax, aE (show aa.length <= 9223372036854775807 by omega), aE (show xs.length <= 2147483648 /\ (ai aa rD []).length <= 2147483648 from ⟨by omega, hsh⟩)]
 simp only [ak]
 repeat' (first | rfl | exact sw _ _ | (refine fh (fun hq => ?_) (fun _ => ?_)))
 all_goals skip
 obtain ⟨v, e1, e2⟩ := hg ‹(op == vG) = true›
 have hK := ‹vI (aX aa fR 0) (Int.ofNat xs.length) = true›
 obtain ⟨d1, d2⟩ := acR hK (Int.natCast_nonneg _) (by simp only [aT]; omega)
 have hl6 : Int.ofNat xs.length <= 6 := by simp only [aT]; omega
 rw [if_pos ⟨Int.le_refl _, d1, by omega⟩, aA, e1, aA, aJ (by omega) (by omega), if_pos ⟨by omega, by omega, Int.le_refl _⟩, aA]
 rw [aE]
 ·rfl
 ·simp only [List.length_drop, List.length_take]
  omega
def bnK (xs : ag) (vr : cg) : Bool := vr.all fun v => v.2.2.1 == List.drop 1 (List.take 2 xs)
def bnN (xs : ag) (_ : Unit) (v : (Y3).den) : Nx Unit (aq × LHp) := bif !v.2.2.1 == List.drop 1 (List.take 2 xs) then .stop (some (.panic 131 4, [])) else .go ()
def bnE (xs : ag) (b : Bool) : Option (aq × LHp) := bif b then some (.ret [.d (.slice af) xs], []) else some (.panic 131 4, [])
theorem Ho (xs : ag) : ∀ vr : cg, cm (bnN xs) (fun _ => bnE xs true) vr () = bnE xs (bnK xs vr)
 | [] => rfl
 | v :: vr => by
  rw [cm]
  have e : bnN xs () v = bif !v.2.2.1 == List.drop 1 (List.take 2 xs) then .stop (some (.panic 131 4, [])) else .go () := rfl
  have e2 : bnK xs (v :: vr) = ((v.2.2.1 == List.drop 1 (List.take 2 xs)) && bnK xs vr) := rfl
  rw [e, e2]
  cases v.2.2.1 == List.drop 1 (List.take 2 xs) with
  | true => exact Ho xs vr
  | false => rfl
theorem agZ {xs : ag} {vr : cg} (hx : 2 <= xs.length) (hl : vr.length <= 2147483648) (hs : uP vr = true) : lp j0 eI Cx fu (CX xs vr 0) KBn = bnE xs (bnK xs vr) := by
 have hm : maxLen = 9223372036854775807 := by decide
 refine (dD (xs := vr) (T := fun m s => lp j0 eI Cx m s KBn) (st := fun (i : Int) (_ : Unit) => CX xs vr i) (f := bnN xs) (fin := fun _ => bnE xs true) (fun (_ : Nat) (_ : Unit) => True) (by omega) ?_ ?_ (a := ()) trivial).trans (Ho xs vr)
 ·intro i _ v m _ hi gx gi hw hd
  have e : bnN xs () v = bif !v.2.2.1 == List.drop 1 (List.take 2 xs) then .stop (some (.panic 131 4, [])) else .go () := rfl
  have hvl : List.length v.2.2.1 <= 2147483648 := aZ (List.all_eq_true.1 hs v (List.mem_of_getElem? gx))
  have h := agX xs vr (i : Int) m KBn
  rw [hd, ak, gi, aA, if_pos ⟨by decide, by decide, by simp only [aT]; omega⟩, aA, aE (show List.length v.2.2.1 <= 9223372036854775807 by omega), ak, hw] at h
  cases hq : !v.2.2.1 == List.drop 1 (List.take 2 xs) with
  | true =>
   rw [hq, ak] at h e
   exact .inr ⟨_, e, h.trans (by kernel_rfl)⟩
  | false =>
   rw [hq, ax] at h e
   exact .inl ⟨(), e, trivial, h⟩
 ·intro _ m _ hd
  show lp _ _ _ (m + 1) (CX xs vr (vr.length : Int)) _ = _
  rw [agX, hd, ax]
  kernel_rfl
theorem aiW (xs : ag) (vr : cg) : hlp j0 eI Cx (aq × LHp) (CX xs vr 0) KBn = lp j0 eI Cx fu (CX xs vr 0) KBn := rfl
theorem acS (xs : ag) (b : Bool) : (zd (bnE xs b)).isSome = true := by cases b <;> rfl
theorem VM {xs ys : ag} (h : (fC xs ys == 0) = true) : (jr xs ys).length <= 6 := by
 have h := eq_of_beq h
 unfold fC at h
 unfold jr
 cases h1 : aB xs != 0 with
 | true => rw [h1, ak] at h; rw [h] at h1; exact absurd h1 (by decide)
 | false =>
  rw [h1, ax] at h
  cases h2 : aB ys != 0 with
  | true => rw [h2, ak] at h; rw [h] at h2; exact absurd h2 (by decide)
  | false =>
   rw [h2, ax] at h
   cases h3 : C7 xs ys with
   | true => rw [ak]; exact Nat.zero_le _
   | false =>
    rw [h3, ax] at h
    rw [ax]
    cases h4 : bcN xs ys with
    | true => rw [h4, ak] at h; exact Hm h
    | false =>
     rw [h4, ax] at h
     exact (fL h).2.1
theorem acT {lo hi : Int} {l : ag} (h : cy 2 lo hi l = true) : ∃ a b, l = [a, b] /\ lo <= a /\ a <= hi /\ lo <= b /\ b <= hi := by
 have h1 := jZ h
 have h2 := y9 h
 match l, h1, h2 with
 | [a, b], _, h2 =>
  have ha := h2 a (by simp)
  have hb := h2 b (by simp)
  exact ⟨a, b, rfl, ha.1, ha.2, hb.1, hb.2⟩
 | [], h1, _ => simp only [List.length_cons, List.length_nil, aT] at h1; omega
 | [_], h1, _ => simp only [List.length_cons, List.length_nil, aT] at h1; omega
 | _ :: _ :: _ :: l, h1, _ => simp only [List.length_cons, aT] at h1; omega
theorem aiX {lo hi : Int} {l : ag} (h : cy 4 lo hi l = true) : ∃ a b c d, l = [a, b, c, d] /\ lo <= a /\ a <= hi /\ lo <= b /\ b <= hi /\ lo <= c /\ c <= hi /\ lo <= d /\ d <= hi := by
 have h1 := jZ h
 have h2 := y9 h
 match l, h1, h2 with
 | [a, b, c, d], _, h2 =>
  have ha := h2 a (by simp)
  have hb := h2 b (by simp)
  have hc := h2 c (by simp)
  have hd := h2 d (by simp)
  exact ⟨a, b, c, d, rfl, ha.1, ha.2, hb.1, hb.2, hc.1, hc.2, hd.1, hd.2⟩
 | [], h1, _ => simp only [List.length_cons, List.length_nil, aT] at h1; omega
 | [_], h1, _ => simp only [List.length_cons, List.length_nil, aT] at h1; omega
 | [_, _], h1, _ => simp only [List.length_cons, List.length_nil, aT] at h1; omega
 | [_, _, _], h1, _ => simp only [List.length_cons, List.length_nil, aT] at h1; omega
 | _ :: _ :: _ :: _ :: _ :: l, h1, _ => simp only [List.length_cons, aT] at h1; omega
theorem lv {aa : bk} (h : aD aa = true) (name : aj) {d : ag} (hd : d.length <= 2147483648) : (ai aa name d).length <= 2147483648 := by
 unfold ai
 cases hf : aa.find? (gZ name 7) with
 | none => exact hd
 | some a => exact (il h (List.mem_of_find?_eq_some hf)).2.2
theorem nB {aa : bk} (hA : aD aa = true) (h w kh kw : Int) : (uM aa h w kh kw).isSome = true := by
 have hlen := bQ hA
 have l1 := lv hA [115, 116, 114, 105, 100, 101, 115] (d := [1, 1]) (by decide)
 have l2 := lv hA [112, 97, 100, 115] (d := [0, 0, 0, 0]) (by decide)
 have l3 := lv hA [100, 105, 108, 97, 116, 105, 111, 110, 115] (d := [1, 1]) (by decide)
 unfold uM
 rw [aE (show aa.length <= 9223372036854775807 /\ (ai aa gq [1, 1]).length <= 2147483648 from ⟨by omega, l1⟩),
  aE (show aa.length <= 9223372036854775807 /\ (ai aa cW [0, 0, 0, 0]).length <= 2147483648 from ⟨by omega, l2⟩),
  aE (show aa.length <= 9223372036854775807 /\ (ai aa gr [1, 1]).length <= 2147483648 from ⟨by omega, l3⟩)]
 simp only [ak]
 generalize ai aa gq [1, 1] = S
 generalize ai aa cW [0, 0, 0, 0] = P
 generalize ai aa gr [1, 1] = D
 refine fh (fun hs => fh (fun hp => fh (fun hd => ?_) fun _ => rfl) fun _ => rfl) fun _ => rfl
 obtain ⟨s0, s1, rfl, z1, _, z2, _⟩ := acT hs
 obtain ⟨p0, p1, p2, p3, rfl, _⟩ := aiX hp
 obtain ⟨d0, d1, rfl, _⟩ := acT hd
 have q0 : ∀ v : Int, (if s0 = 0 then none else some v) = some v := fun v => if_neg (show ¬ s0 = 0 by omega)
 have q1 : ∀ v : Int, (if s1 = 0 then none else some v) = some v := fun v => if_neg (show ¬ s1 = 0 by omega)
 have a0 : idx [p0, p1, p2, p3] 0 = some p0 := rfl
 have a1 : idx [p0, p1, p2, p3] 1 = some p1 := rfl
 have a2 : idx [p0, p1, p2, p3] 2 = some p2 := rfl
 have a3 : idx [p0, p1, p2, p3] 3 = some p3 := rfl
 have b0 : [p0, p1, p2, p3][0]? = some p0 := rfl
 have b1 : [p0, p1, p2, p3][1]? = some p1 := rfl
 have b2 : [p0, p1, p2, p3][2]? = some p2 := rfl
 have b3 : [p0, p1, p2, p3][3]? = some p3 := rfl
 have c0 : idx [d0, d1] 0 = some d0 := rfl
 have c1 : idx [d0, d1] 1 = some d1 := rfl
 have c2 : [d0, d1][0]? = some d0 := rfl
 have c3 : [d0, d1][1]? = some d1 := rfl
 have e0 : idx [s0, s1] 0 = some s0 := rfl
 have e1 : idx [s0, s1] 1 = some s1 := rfl
 have e2 : [s0, s1][0]? = some s0 := rfl
 have e3 : [s0, s1][1]? = some s1 := rfl
 rw [a0, a1, a2, a3, b0, b1, b2, b3, c0, c1, c2, c3, e0, e1, e2, e3]
 simp only [aA, q0, q1]
 exact fh (fun _ => rfl) fun _ => fh (fun _ => rfl) fun _ => rfl
theorem fW {α : Type} {l : List α} {i : Nat} (h : i < l.length) : ∃ v, idx l (i : Int) = some v /\ v ∈ l := by
 refine ⟨l[i], ?_, List.getElem_mem h⟩
 unfold idx
 rw [if_pos (by omega), Int.toNat_natCast, List.getElem?_eq_getElem h]
def okS : Option (ag ⊕ Int) -> Bool
 | some (.inl _) => true
 | some (.inr e) => !(e == 0)
 | none => false
theorem gS {c : Bool} {a b : Option (ag ⊕ Int)} (h1 : c = true -> okS a = true) (h2 : c = false -> okS b = true) : okS (bif c then a else b) = true := by
 cases c with
 | true => exact h1 rfl
 | false => exact h2 rfl
theorem acU {aa : bk} {vs : cg} {xs : ag} (hA : aD aa = true) (hV : ∀ v ∈ vs, List.length v.2.2.1 <= 6) (h2 : 2 <= vs.length) : okS (nI aa vs xs) = true := by
 have hlen := bQ hA
 unfold nI
 obtain ⟨w, e1, _⟩ := fW (l := vs) (i := 1) (by omega)
 rw [show idx vs 1 = some w from e1, aA, aE (show aa.length <= 9223372036854775807 by omega), ak]
 refine gS (fun c1 => gS (fun c2 => gS (fun c3 => gS (fun _ => rfl) fun c4 => ?_) fun _ => rfl) fun _ => rfl) fun _ => rfl
 have c1 := eq_of_beq c1
 have c2 := eq_of_beq c2
 have c3 := aZ c3
 simp only [aT] at c1 c2
 obtain ⟨x1, f1, _⟩ := fW (l := xs) (i := 1) (by omega)
 obtain ⟨x0, f0, _⟩ := fW (l := xs) (i := 0) (by omega)
 obtain ⟨k0, g0, _⟩ := fW (l := w.2.2.1) (i := 0) (by omega)
 obtain ⟨k1, g1, _⟩ := fW (l := w.2.2.1) (i := 1) (by omega)
 rw [show idx xs 1 = some x1 from f1, show idx xs 0 = some x0 from f0, show idx w.2.2.1 0 = some k0 from g0, show idx w.2.2.1 1 = some k1 from g1]
 simp only [aA, if_neg (show ¬ aX aa gF 1 = 0 by omega)]
 have PI : (if (0 : Int) <= 2 /\ 2 <= Int.ofNat (List.length w.2.2.1) /\ Int.ofNat (List.length w.2.2.1) <= Int.ofNat (List.length w.2.2.1) then some (List.drop 2 (List.take (Int.ofNat (List.length w.2.2.1)).toNat w.2.2.1)) else none) = some (List.drop 2 w.2.2.1) := by
  rw [if_pos ⟨by decide, by simp only [aT]; omega, Int.le_refl _⟩, show (Int.ofNat (List.length w.2.2.1)).toNat = List.length w.2.2.1 from rfl, List.take_length]
 have hd1 : (if (0 : Int) <= 0 /\ (0 : Int) <= 1 /\ 1 <= Int.ofNat (List.length w.2.2.1) then some (List.drop 0 (List.take 1 w.2.2.1)) else none) = some (List.drop 0 (List.take 1 w.2.2.1)) := if_pos ⟨by decide, by decide, by simp only [aT]; omega⟩
 have hl : xs.length = 4 /\ (List.drop 2 w.2.2.1).length = 2 := ⟨by omega, by rw [List.length_drop]; omega⟩
 have hw : lS aa xs (List.drop 2 w.2.2.1) = true := nB hA _ _ _ _
 have hW : (dM aa xs (List.drop 2 w.2.2.1) == 0) = false -> okS (some (.inr (dM aa xs (List.drop 2 w.2.2.1)))) = true := fun h => by
  show (!(dM aa xs (List.drop 2 w.2.2.1) == 0)) = true
  rw [h]
  rfl
 refine gS (fun _ => gS (fun _ => gS (fun _ => rfl) fun _ => ?_) fun _ => rfl) fun _ => rfl
 rw [PI, hd1]
 simp only [aA]
 rw [aE hl, hw]
 simp only [ak]
 refine gS (fun _ => gS (fun _ => rfl) hW) fun c5 => ?_
 have c5 := rq c5
 simp only [aT] at c5
 obtain ⟨u, e2, hu⟩ := fW (l := vs) (i := 2) (by omega)
 have hu6 := hV u hu
 rw [show idx vs 2 = some u from e2, aA, aE (show List.length u.2.2.1 <= 9223372036854775807 by omega), ak]
 exact gS (fun _ => rfl) fun _ => gS (fun _ => rfl) hW
theorem CY {aa : bk} {vs : cg} {xs : ag} (hA : aD aa = true) (hV : ∀ v ∈ vs, List.length v.2.2.1 <= 6) (h2 : 2 <= vs.length) : vL aa vs xs = true /\ (oF aa vs xs = false -> (rH aa vs xs == 0) = false) := by
 have h := acU (xs := xs) hA hV h2
 unfold vL oF rH
 cases hq : nI aa vs xs with
 | none => rw [hq] at h; cases h
 | some r =>
  rw [hq] at h
  cases r with
  | inl l => exact ⟨rfl, fun h => by cases h⟩
  | inr e =>
   refine ⟨rfl, fun _ => ?_⟩
   have h : (!(e == 0)) = true := h
   show (e == 0) = false
   cases he : e == 0 with
   | false => rfl
   | true => rw [he] at h; cases h
theorem VN {n : dL} {vs : cg} (hA : aD n.2.2.2.2.1 = true) (hV : ∀ v ∈ vs, List.length v.2.2.1 <= 6) (hv2 : vs.length <= 2147483648) (hax : (dA n.2.2.2.2.1).length <= 2147483640) (hsh : (ai n.2.2.2.2.1 [115, 104, 97, 112, 101] []).length <= 2147483648)
  (hc : (n.1 == ff) = true -> ∃ a, List.find? gj n.2.2.2.2.1 = some a) (h2 : (cC n.1).1 <= (vs.length : Int)) : Ot n vs = true := by
 obtain ⟨op, nm, ins, out, aa, u⟩ := n
 have hA : aD aa = true := hA
 have hax : (dA aa).length <= 2147483640 := hax
 have hsh : (ai aa rD []).length <= 2147483648 := hsh
 have hc : (op == tZ) = true -> ∃ a, List.find? gj aa = some a := hc
 have h2 : (cC op).1 <= (vs.length : Int) := h2
 have hlen := bQ hA
 have hsv : uP vs = true := List.all_eq_true.2 fun v hv => aE (by have := hV v hv; omega)
 have two : ∀ {lit : aj}, (op == lit) = true -> 2 <= (cC lit).1 -> 2 <= vs.length := fun hq hr => by
  rw [← eq_of_beq hq] at hr
  omega
 have one : ∀ {lit : aj}, (op == lit) = true -> 2 <= (cC lit).1 -> ∃ v, idx vs 1 = some v /\ List.length v.2.2.1 <= 6 := fun hq hr => by
  obtain ⟨v, e, hv⟩ := fW (l := vs) (i := 1) (two hq hr)
  exact ⟨v, e, hV v hv⟩
 unfold Ot EP
 rw [show gu (op, nm, ins, out, aa, u) vs = gu (op, nm, ins, out, aa, ()) vs from rfl, uW]; simp only [fp, ze, pU, eY]
 cases fX : op == tZ with
 | true =>
  obtain ⟨a, ha⟩ := hc fX
  rw [ak, ha, aE (show aa.length <= 9223372036854775807 by omega)]
  rfl
 | false =>
  have h1 : 1 <= vs.length := by
   have := vf fX
   omega
  obtain ⟨v, hv, hvm⟩ := fW (l := vs) (i := 0) (by omega)
  have hv6 := hV v hvm
  rw [ax, show idx vs 0 = some v from hv, aA]
  simp only [nA, vg, vh, sv, zu, pZ]
  rw [hA, hsv, aE (show List.length v.2.2.1 <= 2147483648 by omega), aE (show aa.length <= 9223372036854775807 by omega)]
  have hmv : mvG (op, nm, ins, out, aa, PUnit.unit) vs v.2.2.1 = true := VL hA hv6 h1 hv2 hax hsh fun hq => one hq (by decide +kernel)
  have hwn : lS aa v.2.2.1 (ai aa fS []) = true := nB hA _ _ _ _
  rw [hmv, hwn]
  simp only [ak]
  have hcv : (op == vH) = true -> vL aa vs v.2.2.1 = true /\ (oF aa vs v.2.2.1 = false -> (rH aa vs v.2.2.1 == 0) = false) := fun hq => CY hA hV (two hq (by decide +kernel))
  have hd : ∀ w : (Y3).den, List.length w.2.2.1 <= 6 -> decide (List.length v.2.2.1 <= 2147483648 /\ List.length w.2.2.1 <= 2147483648) = true := fun w hw => aE ⟨by omega, by omega⟩
  repeat' (first | rfl | exact sw _ _ | (refine fh (fun hq => ?_) (fun _ => ?_)))
  all_goals first
   | (obtain ⟨w, e1, e2⟩ := one ‹(op == tY) = true› (by decide +kernel)
      obtain ⟨z, f1, f2⟩ := fW (l := vs) (i := 2) (by
        have hq := ‹(op == tY) = true›
        rw [eq_of_beq hq] at h2
        have h3 : (cC tY).1 = 3 := by decide +kernel
        omega)
      rw [e1, aA, hd w e2, ak]
      rw [show idx vs 2 = some z from f1]
      refine fh (fun hs => ?_) fun hs => ?_
      ·have := VM hs
       have := hV z f2
       rw [aA, aE ⟨by omega, by omega⟩, ak]
       exact sw _ _
      ·rw [aA, hs]
       rfl)
   | (obtain ⟨w, e1, e2⟩ := one ‹_› (by decide +kernel)
      rw [e1, aA, hd w e2, ak]
      exact sw _ _)
   | exact absurd (two ‹(op == Iy) = true› (by decide +kernel)) (rq ‹decide (2 <= vs.length) = false›)
   | (have h := (hcv ‹(op == vH) = true›).1
      rw [‹vL aa vs v.2.2.1 = false›] at h
      cases h)
   | (have h := (hcv ‹(op == vH) = true›).2 ‹oF aa vs v.2.2.1 = false›
      have g := ‹(!(rH aa vs v.2.2.1 == 0)) = false›
      rw [h] at g
      cases g)
   | (have h := ‹(dM aa v.2.2.1 (ai aa fS []) == 0) = false›
      have g := ‹(!(dM aa v.2.2.1 (ai aa fS []) == 0)) = false›
      rw [h] at g
      cases g)
   | (have h := ‹(!Int.ofNat (List.length v.2.2.1) == 4) = false›
      have h4 : Int.ofNat (List.length v.2.2.1) = 4 := by simpa using h
      simp only [aT] at h4
      obtain ⟨x0, f0, _⟩ := fW (l := v.2.2.1) (i := 0) (by omega)
      obtain ⟨x1, f1, _⟩ := fW (l := v.2.2.1) (i := 1) (by omega)
      rw [show idx v.2.2.1 0 = some x0 from f0, aA, show idx v.2.2.1 1 = some x1 from f1]
      rfl)
   | (have h := ‹(!decide (Int.ofNat (List.length v.2.2.1) >= 2)) = false›
      have h4 : 2 <= List.length v.2.2.1 := by
        have h5 : decide (Int.ofNat (List.length v.2.2.1) >= 2) = true := by simpa using h
        have h5 := aZ h5
        simp only [aT] at h5
        omega
      rw [if_pos ⟨by decide, by simp only [aT]; omega, Int.le_refl _⟩, aA, show (Int.ofNat vs.length).toNat = vs.length from rfl, List.take_length]
      have hr : zd (lp j0 eI Cx fu (CX v.2.2.1 (List.drop 1 vs) 0) KBn) = zd (bnE v.2.2.1 (bnK v.2.2.1 (List.drop 1 vs))) := congrArg zd (agZ h4 (by rw [List.length_drop]; omega) (List.all_eq_true.2 fun z hz => List.all_eq_true.1 hsv z (List.mem_of_mem_drop hz)))
      refine Eq.trans (congrArg Option.isSome (Eq.trans (congrArg zd (aiW v.2.2.1 (List.drop 1 vs))) hr)) (acS _ _))
structure n8 (n : dL) : Prop where
 ins : n.2.2.1.length <= 1048576
 shA : aD n.2.2.2.2.1 = true
 shT : mO n.2.2.2.2.1 = true
 ints : ∀ a ∈ n.2.2.2.2.1, List.length a.2.2.2.2.2.2.1 <= 1048576
theorem E3 {aa : bk} (h : ∀ a ∈ aa, List.length a.2.2.2.2.2.2.1 <= 1048576) (name : aj) : (ai aa name []).length <= 1048576 := by
 unfold ai
 cases hf : aa.find? (gZ name 7) with
 | none => exact Nat.zero_le _
 | some a => exact h a (List.mem_of_find?_eq_some hf)
theorem vi : ∀ {vs : cg}, zg vs = 0 -> ∀ v ∈ vs, bz v.2.1 0 = true /\ aB v.2.2.1 = 0
 | [], _, v, h => by cases h
 | w :: vs, h, v, hv => by
  rw [zg] at h
  cases h1 : bz w.2.1 0 with
  | false => rw [h1] at h; exact no5 h
  | true =>
   rw [h1, Bool.not_true, ax] at h
   cases h2 : aB w.2.2.1 != 0 with
   | true => rw [h2, ak] at h; rw [h] at h2; exact absurd h2 (by decide)
   | false =>
    rw [h2, ax] at h
    rcases List.mem_cons.1 hv with rfl | hv
    ·exact ⟨h1, l5 h2⟩
    ·exact vi h v hv
theorem Pj : ∀ {vs : cg}, (∀ v ∈ vs, bz v.2.1 0 = true /\ aB v.2.2.1 = 0) -> zg vs = 0
 | [], _ => rfl
 | w :: vs, h => by
  obtain ⟨h1, h2⟩ := h w (by simp)
  rw [zg, h1, h2]
  exact Pj fun v hv => h v (by simp [hv])
theorem VO {n : dL} {vs : cg} (hn : n8 n) : PS n vs = true := by
 obtain ⟨op, nm, ins, out, aa, u⟩ := n
 have hA : aD aa = true := hn.shA
 have hT : mO aa = true := hn.shT
 have hI : ins.length <= 1048576 := hn.ins
 have hL := fun name => E3 (aa := aa) hn.ints name
 have hlen := bQ hA
 unfold PS
 show ((decide (ins.length <= 2147483648) && (aD aa && mO aa)) && (B8 op ins out aa != 0 || (!(Int.ofNat vs.length == Int.ofNat ins.length) || (zg vs != 0 || (yX op aa vs && (!(mR op aa vs == 0) || Ot (op, nm, ins, out, aa, u) vs)))))) = true
 rw [aE (show ins.length <= 2147483648 by omega), hA, hT]
 cases c1 : B8 op ins out aa != 0 with
 | true => rfl
 | false =>
  have hC := vd (l5 c1)
  cases c2 : Int.ofNat vs.length == Int.ofNat ins.length with
  | false => rfl
  | true =>
   have e2 := eq_of_beq c2
   simp only [aT] at e2
   cases c3 : zg vs != 0 with
   | true => rfl
   | false =>
    have hv := vi (l5 c3)
    have hc : (op == ff) = true -> ∃ a, List.find? gj aa = some a := fun h => JR h hC.attr
    have h2 : (cC op).1 <= (vs.length : Int) := by have := hC.least; omega
    have ar : ∀ {lit : aj} (k : Nat), (op == lit) = true -> (k : Int) <= (cC lit).1 -> k <= vs.length := fun k hq hr => by
     rw [← eq_of_beq hq] at hr
     omega
    have ht : yX op aa vs = true := Ph (by omega) (by omega) hc
     (fun h => by
      have := vf h
      obtain ⟨v, e, _⟩ := fW (l := vs) (i := 0) (by omega)
      exact ⟨v, e⟩)
     (fun h => by
      have := ar 3 h (by decide +kernel)
      obtain ⟨v, e, _⟩ := fW (l := vs) (i := 1) (by omega)
      obtain ⟨w, f, _⟩ := fW (l := vs) (i := 2) (by omega)
      exact ⟨v, w, e, f⟩)
     (fun h => by
      have := ar 2 h (by decide +kernel)
      obtain ⟨v, e, _⟩ := fW (l := vs) (i := 1) (by omega)
      exact ⟨v, e⟩)
    have hd : Ot (op, nm, ins, out, aa, u) vs = true := VN hA (fun v h => (fL (hv v h).2).2.1) (by omega) (Nat.le_trans (hL dN) (by decide)) (by have := hL [115, 104, 97, 112, 101]; exact Nat.le_trans this (by decide)) hc h2
    rw [ht, hd]
    simp
structure Hq (n : dL) (vs : cg) : Prop where
 ck : B8 n.1 n.2.2.1 n.2.2.2.1 n.2.2.2.2.1 = 0
 len : vs.length = n.2.2.1.length
 vals : ∀ v ∈ vs, bz v.2.1 0 = true /\ aB v.2.2.1 = 0
 typ : mR n.1 n.2.2.2.2.1 vs = 0
 dm : zf n vs = 0
 cnt : aB (j6 n vs) = 0
 thn : kK n.2.2.2.2.1 (pN n.1 n.2.2.2.2.1 vs) = true
theorem acV {n : dL} {vs : cg} (h : ET n vs = 0) : Hq n vs := by
 unfold ET at h
 cases c1 : B8 n.1 n.2.2.1 n.2.2.2.1 n.2.2.2.2.1 != 0 with
 | true => rw [c1, ak] at h; rw [h] at c1; exact absurd c1 (by decide)
 | false =>
  rw [c1, ax] at h
  cases c2 : Int.ofNat vs.length == Int.ofNat n.2.2.1.length with
  | false => rw [c2] at h; exact Hm h
  | true =>
   rw [c2, Bool.not_true, ax] at h
   have e2 := eq_of_beq c2
   simp only [aT] at e2
   cases c3 : zg vs != 0 with
   | true => rw [c3, ak] at h; rw [h] at c3; exact absurd c3 (by decide)
   | false =>
    rw [c3, ax] at h
    cases c4 : mR n.1 n.2.2.2.2.1 vs == 0 with
    | false => rw [c4, ax] at h; rw [h] at c4; exact absurd c4 (by decide)
    | true =>
     rw [c4, ak] at h
     cases c5 : zf n vs == 0 with
     | false => rw [c5, ax] at h; rw [h] at c5; exact absurd c5 (by decide)
     | true =>
      rw [c5, ak] at h
      cases c6 : aB (j6 n vs) != 0 with
      | true => rw [c6, ak] at h; rw [h] at c6; exact absurd c6 (by decide)
      | false =>
       rw [c6, ax] at h
       cases c7 : kK n.2.2.2.2.1 (pN n.1 n.2.2.2.2.1 vs) with
       | false => rw [c7] at h; exact Hm h
       | true => exact ⟨l5 c1, by omega, vi (l5 c3), eq_of_beq c4, eq_of_beq c5, l5 c6, c7⟩
theorem acW {n : dL} {vs : cg} (h : Hq n vs) : ET n vs = 0 := by
 unfold ET
 rw [h.ck, Pj h.vals, h.typ, h.dm, h.cnt, h.thn, h.len]
 simp
theorem acX {n : dL} {vs : cg} (h : ET n vs = 0) : Ow n vs = (n.2.2.2.1, pN n.1 n.2.2.2.2.1 vs, j6 n vs, ()) := by
 unfold Ow
 rw [h]
 rfl
def cv : aj := vH
def lx : aj := rC
def ly : aj := Ec
def cS : aj := XJ
def dS : aj := fS
def Pk : aj := cW
theorem zv {nm : aj} {ins : List (aj)} {out : aj} {aa : bk} {v : (Y3).den} {vs : cg} :
  EP (cv, nm, ins, out, aa, ()) (v :: vs) = bif vL aa (v :: vs) v.2.2.1 then (bif oF aa (v :: vs) v.2.2.1 then some (0, yV aa (v :: vs) v.2.2.1) else bif !(rH aa (v :: vs) v.2.2.1 == 0) then some (rH aa (v :: vs) v.2.2.1, []) else none) else none := by
 have e : aC j0 f105 8 [(56, [3, 132, 133, 134])] [gu (cv, nm, ins, out, aa, ()) (v :: vs)] [] ah = bif vL aa (v :: vs) v.2.2.1 then (bif oF aa (v :: vs) v.2.2.1 then some (.ret [.d (.slice af) (yV aa (v :: vs) v.2.2.1)], []) else some (.panic 131 (rH aa (v :: vs) v.2.2.1), [])) else none := (uW cv nm ins out aa (v :: vs)).trans (by kernel_rfl)
 unfold EP
 rw [e, nA, nA, sv, pZ]
 rfl
def plP (aa : bk) (xs : ag) : Option (Int × ag) :=
 bif aD aa then (bif cy 2 1 100 (ai aa dS []) then (bif Int.ofNat xs.length == 4 then (bif lS aa xs (ai aa dS []) then (bif dM aa xs (ai aa dS []) == 0 then
  (bif n6 (ai aa dS []) 0 (ai aa Pk []) then some (0, [xs.getD 0 0, xs.getD 1 0, lg aa xs (ai aa dS []), lh aa xs (ai aa dS [])]) else some (4, []))
  else bif !(dM aa xs (ai aa dS []) == 0) then some (dM aa xs (ai aa dS []), []) else none) else none) else some (4, [])) else some (4, [])) else none
theorem zw {op nm : aj} {ins : List (aj)} {out : aj} {aa : bk} {v : (Y3).den} {vs : cg} (ho : op = lx \/ op = ly) :
  EP (op, nm, ins, out, aa, ()) (v :: vs) = plP aa v.2.2.1 := by
 have e : aC j0 f105 8 [(56, [3, 132, 133, 134])] [gu (op, nm, ins, out, aa, ()) (v :: vs)] [] ah = bif aD aa then (bif cy 2 1 100 (ai aa dS []) then (bif Int.ofNat (List.length v.2.2.1) == 4 then (bif lS aa v.2.2.1 (ai aa dS []) then (bif dM aa v.2.2.1 (ai aa dS []) == 0 then
  (bif n6 (ai aa dS []) 0 (ai aa Pk []) then some (.ret [.d (.slice af) [List.getD v.2.2.1 0 0, List.getD v.2.2.1 1 0, lg aa v.2.2.1 (ai aa dS []), lh aa v.2.2.1 (ai aa dS [])]], []) else some (.panic 131 4, []))
  else some (.panic 131 (dM aa v.2.2.1 (ai aa dS [])), [])) else none) else some (.panic 131 4, [])) else some (.panic 131 4, [])) else none := by
  rcases ho with rfl | rfl
  ·exact (uW lx nm ins out aa (v :: vs)).trans (by kernel_rfl)
  ·exact (uW ly nm ins out aa (v :: vs)).trans (by kernel_rfl)
 unfold EP plP
 rw [e]
 simp only [nA, vh, sv, pZ]
 rfl
theorem E4 {nm : aj} {ins : List (aj)} {out : aj} {aa : bk} {v : (Y3).den} {vs : cg} :
  EP (cS, nm, ins, out, aa, ()) (v :: vs) = bif !Int.ofNat (List.length v.2.2.1) == 4 then some (4, []) else (idx v.2.2.1 0).bind fun a => (idx v.2.2.1 1).bind fun b => some (0, [a, b, 1, 1]) := by
 have e : aC j0 f105 8 [(56, [3, 132, 133, 134])] [gu (cS, nm, ins, out, aa, ()) (v :: vs)] [] ah = bif !Int.ofNat (List.length v.2.2.1) == 4 then some (.panic 131 4, []) else (idx v.2.2.1 0).bind fun a => (idx v.2.2.1 1).bind fun b => some (.ret [.os 0 0], [(0, .arr 3 af 0 false [a, b, 1, 1])]) := (uW cS nm ins out aa (v :: vs)).trans (by kernel_rfl)
 unfold EP
 rw [e]
 simp only [nA, vg, zu, pZ]
 rfl
theorem Hr {α β : Type} (f : α -> β) (c : Bool) (a b : Option α) : (bif c then a else b).map f = bif c then a.map f else b.map f := by cases c <;> rfl
theorem VP {α β γ : Type} (f : β -> γ) (o : Option α) (g : α -> Option β) : (o.bind g).map f = o.bind fun v => (g v).map f := by cases o <;> rfl
def aiY (y : Int) : ag ⊕ Int -> ag ⊕ Int
 | .inl l => .inl (l.set 0 y)
 | .inr e => .inr e
theorem JS {aa : bk} {v w : (Y3).den} {vs : cg} {x0 y0 x1 x2 x3 : Int} : nI aa (w :: vs) [y0, x1, x2, x3] = (nI aa (v :: vs) [x0, x1, x2, x3]).map (aiY y0) := by
 unfold nI
 simp only [Hr, VP, Option.map_some, Option.map_none]
 rfl
structure zH (xs : List Int) (A B C D : Nat) : Prop where
 eq : xs = [(A : Int), (B : Int), (C : Int), (D : Int)]
 a : 1 <= A
 b : 1 <= B
 c : 1 <= C
 d : 1 <= D
 p : A * (B * (C * D)) <= 65536
theorem zx {xs : ag} (h : aB xs = 0) (hl : xs.length = 4) : ∃ A B C D, zH xs A B C D := by
 obtain ⟨L, e, _, h1, h2, _⟩ := lr h
 have hL : L.length = 4 := by rw [e, gQ] at hl; exact hl
 match L, hL, e, h1, h2 with
 | [A, B, C, D], _, e, h1, h2 =>
  simp only [bf, Nat.mul_one] at h2
  exact ⟨A, B, C, D, e, h1 A (by simp), h1 B (by simp), h1 C (by simp), h1 D (by simp), h2⟩
theorem sx {a b : Nat} (h : 1 <= b) : a <= a * b := Nat.le_mul_of_pos_right a h
theorem nC {a b : Nat} (h : 1 <= b) : a <= b * a := Nat.le_mul_of_pos_left a h
structure aiZ (A B C D : Nat) : Prop where
 a : A <= 65536
 b : B <= 65536
 c : C <= 65536
 d : D <= 65536
 ab : A * B <= 65536
 cd : C * D <= 65536
 bcd : B * (C * D) <= 65536
theorem zH.bnd {xs : ag} {A B C D : Nat} (h : zH xs A B C D) : aiZ A B C D := by
 have p := h.p
 have J2 : 1 <= C * D := Nat.mul_pos h.c h.d
 have hbcd : 1 <= B * (C * D) := Nat.mul_pos h.b J2
 have e1 : A <= A * (B * (C * D)) := sx hbcd
 have e2 : B * (C * D) <= A * (B * (C * D)) := nC h.a
 have e3 : B <= B * (C * D) := sx J2
 have e4 : C * D <= B * (C * D) := nC h.b
 have e5 : C <= C * D := sx h.d
 have e6 : D <= C * D := nC h.c
 have e7 : A * B <= A * B * (C * D) := sx J2
 rw [Nat.mul_assoc] at e7
 exact ⟨by omega, by omega, by omega, by omega, by omega, by omega, by omega⟩
theorem zH.cnt {xs : ag} {A B C D : Nat} (h : zH xs A B C D) : bf (xs.map Int.toNat) = A * (B * (C * D)) := by
 rw [h.eq]
 simp only [List.map_cons, List.map_nil, Int.toNat_natCast, bf, Nat.mul_one]
theorem p5 {a b : Nat} (h : a * b <= 65536) : i64.wrap ((a : Int) * (b : Int)) = ((a * b : Nat) : Int) := by
 have e : (a : Int) * (b : Int) = ((a * b : Nat) : Int) := (Int.natCast_mul a b).symm
 rw [e, aJ (by omega) (by omega)]
theorem VQ {aa : bk} {xs ks : ag} (hA : aD aa = true) (h : dM aa xs ks = 0) :
  cy 2 1 100 (ai aa gq [1, 1]) = true /\ cy 4 0 100 (ai aa cW [0, 0, 0, 0]) = true /\ cy 2 1 100 (ai aa gr [1, 1]) = true := by
 have hlen := bQ hA
 have l1 := lv hA [115, 116, 114, 105, 100, 101, 115] (d := [1, 1]) (by decide)
 have l2 := lv hA [112, 97, 100, 115] (d := [0, 0, 0, 0]) (by decide)
 have l3 := lv hA [100, 105, 108, 97, 116, 105, 111, 110, 115] (d := [1, 1]) (by decide)
 unfold dM NP uM at h
 rw [aE (show aa.length <= 9223372036854775807 /\ (ai aa gq [1, 1]).length <= 2147483648 from ⟨by omega, l1⟩),
  aE (show aa.length <= 9223372036854775807 /\ (ai aa cW [0, 0, 0, 0]).length <= 2147483648 from ⟨by omega, l2⟩),
  aE (show aa.length <= 9223372036854775807 /\ (ai aa gr [1, 1]).length <= 2147483648 from ⟨by omega, l3⟩)] at h
 cases hs : cy 2 1 100 (ai aa gq [1, 1]) with
 | false => rw [hs] at h; exact Hm h
 | true =>
  cases hp : cy 4 0 100 (ai aa cW [0, 0, 0, 0]) with
  | false => rw [hs, hp] at h; exact Hm h
  | true =>
   cases hd : cy 2 1 100 (ai aa gr [1, 1]) with
   | false => rw [hs, hp, hd] at h; exact Hm h
   | true => exact ⟨rfl, rfl, rfl⟩
theorem Hs {aa : bk} {xs : ag} (hA : aD aa = true) (h1 : 2 <= (ai aa lU [1, 1]).length) (h2 : 2 <= (ai aa lV [1, 1]).length) (h3 : 2 <= (ai aa cQ [0, 0, 0, 0]).length) (hl : xs.length = 4) : CG aa xs = true := by
 unfold CG
 rw [hA, aE h1, aE h2, aE h3, aE hl]
 rfl
theorem Pm {aa : bk} {xs ks : ag} (hA : aD aa = true) (hl : xs.length = 4) (h : dM aa xs ks = 0) : CG aa xs = true := by
 obtain ⟨h1, h2, h3⟩ := VQ hA h
 have e1 := jZ h1
 have e2 := jZ h2
 have e3 := jZ h3
 simp only [aT] at e1 e2 e3
 exact Hs hA (by unfold lU; omega) (by unfold lV; omega) (by unfold cQ; omega) hl
theorem CZ {aa : bk} {xs : ag} {A B C D : Nat} (hf : zH xs A B C D) {kh kw : Int} (h1 : 0 <= kh /\ kh <= 65536) (h2 : 0 <= kw /\ kw <= 65536) : rM (kc aa xs kh kw) (C * D) = true := by
 have b := hf.bnd
 have e2 : xs.getD 2 0 = (C : Int) := by rw [hf.eq]; rfl
 have e3 : xs.getD 3 0 = (D : Int) := by rw [hf.eq]; rfl
 have ec := b.c
 have ed := b.d
 unfold rM kc
 simp only []
 rw [e2, e3, aE (show (prL aa lU).length = 2 /\ (prL aa lV).length = 2 from ⟨rfl, rfl⟩), aE (show 0 <= (C : Int) /\ (C : Int) <= 65536 by omega), aE (show 0 <= (D : Int) /\ (D : Int) <= 65536 by omega), aE h1, aE h2, aE (show (C : Int) * (D : Int) <= ((C * D : Nat) : Int) by rw [Int.natCast_mul]; exact Int.le_refl _)]
 rfl
theorem jz {aa : bk} {xs : ag} {A B C D : Nat} (hf : zH xs A B C D) (kh kw : Int) : (kc aa xs kh kw).2.2.2.2.2.2.2.2.1 = ((A * B : Nat) : Int) /\ (kc aa xs kh kw).2.2.2.2.2.2.2.2.2.1 = ((C * D : Nat) : Int) := by
 have b := hf.bnd
 unfold kc
 simp only []
 rw [hf.eq]
 exact ⟨p5 b.ab, p5 b.cd⟩
theorem lz {aa : bk} {xs ds : ag} {A B C D H W n : Nat} (hf : zH xs A B C D) (hd : zH ds A B H W) (hn : n = A * (B * (C * D))) {kh kw : Int} (h1 : 0 <= kh /\ kh <= 65536) (h2 : 0 <= kw /\ kw <= 65536) : rO n (kc aa xs kh kw) ds = true := by
 have b := hf.bnd
 have c := hd.bnd
 obtain ⟨p1, p2⟩ := jz (aa := aa) hf kh kw
 have q := hf.p
 have r := hd.p
 have e2 : ds.getD 2 0 = (H : Int) := by rw [hd.eq]; rfl
 have e3 : ds.getD 3 0 = (W : Int) := by rw [hd.eq]; rfl
 have ea := b.ab
 have eh := c.c
 unfold rO
 rw [p1, p2, e2, e3, Int.toNat_natCast, Int.toNat_natCast, Int.toNat_natCast, Int.toNat_natCast, CZ hf h1 h2, aE (Int.natCast_nonneg (C * D)), aE (show 0 <= ((A * B : Nat) : Int) /\ ((A * B : Nat) : Int) <= 2147483648 by omega),
  aE (show A * B * (C * D) <= n /\ n <= 2147483648 by rw [hn, Nat.mul_assoc]; omega), aE (show ds.length = 4 by rw [hd.eq]; rfl), aE (show 0 <= (H : Int) /\ (H : Int) <= 2147483648 by omega), aE (Int.natCast_nonneg W),
  aE (show A * B * (H * W) <= 2147483648 by rw [Nat.mul_assoc]; omega)]
 rfl
structure Cvd (aa : bk) (vs : cg) (xs : List Int) (w : (Y3).den) (k0 k1 k2 k3 : Int) : Prop where
 i1 : idx vs 1 = some w
 xl : xs.length = 4
 ks : w.2.2.1 = [k0, k1, k2, k3]
 g1 : 1 <= aX aa gF 1
 g2 : aX aa gF 1 <= 65536
 xg : (xs.getD 1 0).tmod (aX aa gF 1) = 0
 kg : k0.tmod (aX aa gF 1) = 0
 k1e : k1 = i64.wrap ((xs.getD 1 0).tdiv (aX aa gF 1))
 third : vs.length < 3 \/ ∃ u, idx vs 2 = some u /\ u.2.2.1 = [k0]
 wnd : dM aa xs [k2, k3] = 0
 out : yV aa vs xs = [xs.getD 0 0, k0, lg aa xs [k2, k3], lh aa xs [k2, k3]]
theorem Xa {α : Type} {l : List α} (h : l.length = 4) : ∃ a b c d, l = [a, b, c, d] := by
 match l, h with
 | [a, b, c, d], _ => exact ⟨a, b, c, d, rfl⟩
theorem VR {aa : bk} {vs : cg} {xs : ag} (hA : aD aa = true) (h : oF aa vs xs = true) : ∃ w k0 k1 k2 k3, Cvd aa vs xs w k0 k1 k2 k3 := by
 have hlen := bQ hA
 have hs : ∃ l, nI aa vs xs = some (.inl l) /\ yV aa vs xs = l := by
  unfold oF at h
  unfold yV
  cases hq : nI aa vs xs with
  | none => rw [hq] at h; cases h
  | some r =>
   cases r with
   | inl l => exact ⟨l, rfl, rfl⟩
   | inr e => rw [hq] at h; cases h
 obtain ⟨l, hs, hout⟩ := hs
 unfold nI at hs
 cases e1 : idx vs 1 with
 | none => rw [e1] at hs; cases hs
 | some w =>
  rw [e1, aA, aE (show aa.length <= 9223372036854775807 by omega), ak] at hs
  cases c1 : Int.ofNat xs.length == 4 with
  | false => rw [c1] at hs; cases hs
  | true =>
   rw [c1, ak] at hs
   cases c2 : Int.ofNat (List.length w.2.2.1) == 4 with
   | false => rw [c2] at hs; cases hs
   | true =>
    rw [c2, ak] at hs
    have n1 := eq_of_beq c1
    have n2 := eq_of_beq c2
    simp only [aT] at n1 n2
    obtain ⟨x0, x1, x2, x3, rfl⟩ := Xa (l := xs) (by omega)
    obtain ⟨k0, k1, k2, k3, hk⟩ := Xa (l := w.2.2.1) (by omega)
    cases c3 : decide (aX aa gF 1 >= 1) with
    | false => rw [c3] at hs; cases hs
    | true =>
     have g1 := aZ c3
     rw [c3, ak] at hs
     cases c4 : decide (aX aa gF 1 <= 65536) with
     | false => rw [c4] at hs; cases hs
     | true =>
      have g2 := aZ c4
      have q : ∀ v : Int, (if aX aa gF 1 = 0 then none else some v) = some v := fun v => if_neg (show ¬ aX aa gF 1 = 0 by omega)
      have a0 : idx [x0, x1, x2, x3] 0 = some x0 := rfl
      have a1 : idx [x0, x1, x2, x3] 1 = some x1 := rfl
      have a2 : idx [k0, k1, k2, k3] 0 = some k0 := rfl
      have a3 : idx [k0, k1, k2, k3] 1 = some k1 := rfl
      have PI : (if (0 : Int) <= 2 /\ 2 <= Int.ofNat (List.length [k0, k1, k2, k3]) /\ Int.ofNat (List.length [k0, k1, k2, k3]) <= Int.ofNat (List.length [k0, k1, k2, k3]) then some (List.drop 2 (List.take (Int.ofNat (List.length [k0, k1, k2, k3])).toNat [k0, k1, k2, k3])) else none) = some [k2, k3] := rfl
      have hd1 : (if (0 : Int) <= 0 /\ (0 : Int) <= 1 /\ 1 <= Int.ofNat (List.length [k0, k1, k2, k3]) then some (List.drop 0 (List.take 1 [k0, k1, k2, k3])) else none) = some [k0] := rfl
      rw [c4, Bool.not_true, ax, hk, PI, hd1, a0, a1, a2, a3] at hs
      simp only [aA, q] at hs
      have hw : lS aa [x0, x1, x2, x3] [k2, k3] = true := nB hA _ _ _ _
      rw [hw, aE (show [x0, x1, x2, x3].length = 4 /\ [k2, k3].length = 2 from ⟨rfl, rfl⟩)] at hs
      simp only [ak] at hs
      cases c5 : Int.tmod x1 (aX aa gF 1) == 0 with
      | false => rw [c5] at hs; cases hs
      | true =>
       rw [c5, ak] at hs
       cases c6 : Int.tmod k0 (aX aa gF 1) == 0 with
       | false => rw [c6] at hs; cases hs
       | true =>
        rw [c6, ak] at hs
        cases c7 : k1 == i64.wrap (Int.tdiv x1 (aX aa gF 1)) with
        | false => rw [c7] at hs; cases hs
        | true =>
         rw [c7, Bool.not_true, ax] at hs
         have fin : (vs.length < 3 \/ ∃ u, idx vs 2 = some u /\ u.2.2.1 = [k0]) -> (bif dM aa [x0, x1, x2, x3] [k2, k3] == 0 then some (.inl [x0, k0, lg aa [x0, x1, x2, x3] [k2, k3], lh aa [x0, x1, x2, x3] [k2, k3]]) else some (.inr (dM aa [x0, x1, x2, x3] [k2, k3]))) = some (Sum.inl l : ag ⊕ Int) -> Cvd aa vs [x0, x1, x2, x3] w k0 k1 k2 k3 := fun h3 he => by
          cases c8 : dM aa [x0, x1, x2, x3] [k2, k3] == 0 with
          | false => rw [c8] at he; cases he
          | true =>
           rw [c8, ak] at he
           injection he with he
           injection he with he
           exact ⟨e1, rfl, hk, g1, g2, eq_of_beq c5, eq_of_beq c6, eq_of_beq c7, h3, eq_of_beq c8, hout.trans he.symm⟩
         refine ⟨w, k0, k1, k2, k3, ?_⟩
         cases c9 : decide (Int.ofNat vs.length < 3) with
         | true =>
          rw [c9, ak] at hs
          have c9 := aZ c9
          simp only [aT] at c9
          exact fin (.inl (by omega)) hs
         | false =>
          rw [c9, ax] at hs
          cases e2 : idx vs 2 with
          | none => rw [e2] at hs; cases hs
          | some u =>
           rw [e2, aA] at hs
           cases c10 : decide (List.length u.2.2.1 <= 9223372036854775807) with
           | false => rw [c10] at hs; cases hs
           | true =>
            rw [c10, ak] at hs
            cases c11 : u.2.2.1 == [k0] with
            | false => rw [c11] at hs; cases hs
            | true =>
             rw [c11, Bool.not_true, ax] at hs
             exact fin (.inr ⟨u, e2, eq_of_beq c11⟩) hs
theorem p6 {n : dL} {ts : List ca} (hn : n8 n) (hs : fg ts = true) (hl : ts.length <= 2147483648) : Da n ts = true := by
 unfold Da
 rw [hs, aE hl, VO hn]
 simp
theorem j4 {n : dL} {ts : List ca} (h : qH n ts = 0) : rK ts = true /\ Hq n (ts.map aH) := by
 unfold qH at h
 cases hb : rK ts with
 | false => rw [hb] at h; exact absurd (show (1 : Int) = 0 from h) (by decide)
 | true => rw [hb, ak] at h; exact ⟨rfl, acV h⟩
theorem acY {n : dL} {ts : List ca} (h1 : rK ts = true) (h2 : Hq n (ts.map aH)) : qH n ts = 0 := by
 unfold qH
 rw [h1, ak]
 exact acW h2
theorem vj {n : dL} {ts : List ca} (h : qH n ts = 0) : j1 n ts = (n.2.2.2.1, pN n.1 n.2.2.2.2.1 (ts.map aH), j6 n (ts.map aH), ()) := by
 have h1 := (j4 h).1
 unfold qH at h
 unfold j1
 rw [h1, ak] at h ⊢
 exact acX h
abbrev TyT : Ty := (Y0)
theorem Po {op nm : aj} {ins : List (aj)} {out : aj} {aa : bk} {x : ca} {ts : List ca} (hg : Da (op, nm, ins, out, aa, ()) (x :: ts) = true) (h : (qH (op, nm, ins, out, aa, ()) (x :: ts) != 0) = true) :
  Pb (op, nm, ins, out, aa, ()) (x :: ts) = some ((0, [], [], ()), qH (op, nm, ins, out, aa, ()) (x :: ts)) := by
 have e := qJ op nm ins out aa x ts
 rw [hg, ak, h, ak] at e
 show CS (lO [TyT, af] (aC PU f11 7 [] [dh op nm ins out aa, .d (.slice (Y0)) (x :: ts)] [] ah)) = _
 rw [e]
 rfl
theorem zy {nm : aj} {ins : List (aj)} {out : aj} {aa : bk} {x : ca} {ts : List ca} (hg : Da (cv, nm, ins, out, aa, ()) (x :: ts) = true) (h : qH (cv, nm, ins, out, aa, ()) (x :: ts) = 0)
  (hc : CR aa (x :: ts) (j1 (cv, nm, ins, out, aa, ()) (x :: ts)).2.2.1 = true) :
  Pb (cv, nm, ins, out, aa, ()) (x :: ts) = some (((j1 (cv, nm, ins, out, aa, ()) (x :: ts)).2.1, (j1 (cv, nm, ins, out, aa, ()) (x :: ts)).2.2.1, xk aa (x :: ts) (j1 (cv, nm, ins, out, aa, ()) (x :: ts)).2.2.1, ()), 0) := by
 have e := qJ cv nm ins out aa x ts
 rw [hg, ak, h] at e
 rw [show (CR aa (x :: ts) (j1 (cv, nm, ins, out, aa, PUnit.unit) (x :: ts)).2.2.1) = true from hc] at e
 show CS (lO [TyT, af] (aC PU f11 7 [] [dh cv nm ins out aa, .d (.slice (Y0)) (x :: ts)] [] ah)) = _
 rw [e]
 rfl
theorem zz {op nm : aj} {ins : List (aj)} {out : aj} {aa : bk} {x : ca} {ts : List ca} {ka kb : Int} {ds : ag} {t : Int} (ho : op = lx \/ op = ly) (hg : Da (op, nm, ins, out, aa, ()) (x :: ts) = true) (h : qH (op, nm, ins, out, aa, ()) (x :: ts) = 0)
  (ht : (j1 (op, nm, ins, out, aa, ()) (x :: ts)).2.1 = t) (hd : (j1 (op, nm, ins, out, aa, ()) (x :: ts)).2.2.1 = ds) (hA : aD aa = true) (hk : ai aa dS [] = [ka, kb]) (PC : CG aa x.2.1 = true) (hp : rO (List.length x.2.2.1) (kc aa x.2.1 ka kb) ds = true) :
  Pb (op, nm, ins, out, aa, ()) (x :: ts) = some ((t, ds, CJ op x.2.2.1 (kc aa x.2.1 ka kb) (kc aa x.2.1 ka kb).2.2.2.2.2.2.2.2.1.toNat (kc aa x.2.1 ka kb).2.2.2.2.2.2.2.2.2.1.toNat (ds.getD 2 0).toNat (ds.getD 3 0).toNat, ()), 0) := by
 unfold dS at hk
 have ht : (j1 (op, nm, ins, out, aa, PUnit.unit) (x :: ts)).2.1 = t := ht
 have hd : (j1 (op, nm, ins, out, aa, PUnit.unit) (x :: ts)).2.2.1 = ds := hd
 have h : qH (op, nm, ins, out, aa, PUnit.unit) (x :: ts) = 0 := h
 have e : aC PU f11 7 [] [dh op nm ins out aa, .d (.slice (Y0)) (x :: ts)] [] ah = bif rO (List.length x.2.2.1) (kc aa x.2.1 ka kb) ds then some (.ret [(I t).pr ((AV.d (.slice af) ds).pr ((AV.d (.slice af) (CJ op x.2.2.1 (kc aa x.2.1 ka kb) (kc aa x.2.1 ka kb).2.2.2.2.2.2.2.2.1.toNat (kc aa x.2.1 ka kb).2.2.2.2.2.2.2.2.2.1.toNat (ds.getD 2 0).toNat (ds.getD 3 0).toNat)).pr (AV.d Ty.unit PUnit.unit))), I 0], []) else none := by
  rcases ho with rfl | rfl
  ·refine (qJ lx nm ins out aa x ts).trans ?_
   rw [hg, ak, h, hA, hk, PC, ht, hd]
   kernel_rfl
  ·refine (qJ ly nm ins out aa x ts).trans ?_
   rw [hg, ak, h, hA, hk, PC, ht, hd]
   kernel_rfl
 show CS (lO [TyT, af] (aC PU f11 7 [] [dh op nm ins out aa, .d (.slice (Y0)) (x :: ts)] [] ah)) = _
 rw [e, hp, ak]
 rfl
theorem E5 {nm : aj} {ins : List (aj)} {out : aj} {aa : bk} {x : ca} {ts : List ca} {x0 x1 ka kb : Int} {ds : ag} {t : Int} (hg : Da (cS, nm, ins, out, aa, ()) (x :: ts) = true) (h : qH (cS, nm, ins, out, aa, ()) (x :: ts) = 0)
  (ht : (j1 (cS, nm, ins, out, aa, ()) (x :: ts)).2.1 = t) (hd : (j1 (cS, nm, ins, out, aa, ()) (x :: ts)).2.2.1 = ds) (hk : x.2.1 = [x0, x1, ka, kb]) (PC : CG aa x.2.1 = true) (hp : rO (List.length x.2.2.1) (kc aa x.2.1 ka kb) ds = true) :
  Pb (cS, nm, ins, out, aa, ()) (x :: ts) = some ((t, ds, CJ cS x.2.2.1 (kc aa x.2.1 ka kb) (kc aa x.2.1 ka kb).2.2.2.2.2.2.2.2.1.toNat (kc aa x.2.1 ka kb).2.2.2.2.2.2.2.2.2.1.toNat (ds.getD 2 0).toNat (ds.getD 3 0).toNat, ()), 0) := by
 have ht : (j1 (cS, nm, ins, out, aa, PUnit.unit) (x :: ts)).2.1 = t := ht
 have hd : (j1 (cS, nm, ins, out, aa, PUnit.unit) (x :: ts)).2.2.1 = ds := hd
 have h : qH (cS, nm, ins, out, aa, PUnit.unit) (x :: ts) = 0 := h
 have e : aC PU f11 7 [] [dh cS nm ins out aa, .d (.slice (Y0)) (x :: ts)] [] ah = bif rO (List.length x.2.2.1) (kc aa x.2.1 ka kb) ds then some (.ret [(I t).pr ((AV.d (.slice af) ds).pr ((AV.d (.slice af) (CJ cS x.2.2.1 (kc aa x.2.1 ka kb) (kc aa x.2.1 ka kb).2.2.2.2.2.2.2.2.1.toNat (kc aa x.2.1 ka kb).2.2.2.2.2.2.2.2.2.1.toNat (ds.getD 2 0).toNat (ds.getD 3 0).toNat)).pr (AV.d Ty.unit PUnit.unit))), I 0], []) else none := by
  refine (qJ cS nm ins out aa x ts).trans ?_
  rw [hg, ak, h, PC, ht, hd, hk]
  kernel_rfl
 show CS (lO [TyT, af] (aC PU f11 7 [] [dh cS nm ins out aa, .d (.slice (Y0)) (x :: ts)] [] ah)) = _
 rw [e, hp, ak]
 rfl
theorem Pp {op nm : aj} {ins : List (aj)} {out : aj} {aa : bk} {x : ca} {ts : List ca} (hg : Da (op, nm, ins, out, aa, ()) (x :: ts) = true) (h : qH (op, nm, ins, out, aa, ()) (x :: ts) = 0)
  (h1 : (op == cv) = false) (h2 : (op == lx) = false) (h3 : (op == ly) = false) (h4 : (op == cS) = false) : Pb (op, nm, ins, out, aa, ()) (x :: ts) = some ((0, [], [], ()), 5) := by
 have e := qJ op nm ins out aa x ts
 unfold cv at h1
 unfold lx at h2
 unfold ly at h3
 unfold cS at h4
 rw [hg, ak, h, h1, h2, h3, h4] at e
 show CS (lO [TyT, af] (aC PU f11 7 [] [dh op nm ins out aa, .d (.slice (Y0)) (x :: ts)] [] ah)) = _
 rw [e]
 rfl
structure T4 (x : ca) (A B C D : Nat) : Prop where
 fr : zH x.2.1 A B C D
 len : x.2.2.1.length = A * (B * (C * D))
theorem p7 {x : ca} (h : gG x.1 x.2.1 x.2.2.1 = 0) (hl : x.2.1.length = 4) : ∃ A B C D, T4 x A B C D := by
 obtain ⟨_, n2, n3, _⟩ := EJ h
 obtain ⟨A, B, C, D, hf⟩ := zx n2 hl
 obtain ⟨_, _, _, c4⟩ := fL n2
 have e := j3 [A, B, C, D]
 have e2 : ints [A, B, C, D] = x.2.1 := hf.eq.symm
 rw [e2] at e
 simp only [bf, Nat.mul_one] at e
 exact ⟨A, B, C, D, hf, by omega⟩
theorem p8 {ts : List ca} (h : rK ts = true) : ∀ t ∈ ts, gG t.1 t.2.1 t.2.2.1 = 0 := fun t ht => eq_of_beq (List.all_eq_true.1 h t ht)
structure Pq (aa : bk) (x : ca) (y : ca) (r : List ca) (ds : List Int) (A B C D K0 K1 K2 K3 H W g Pr : Nat) : Prop where
 tx : T4 x A B C D
 ty : T4 y K0 K1 K2 K3
 rr : r = [] \/ ∃ b : ca, r = [b] /\ b.2.1 = [(K0 : Int)] /\ b.2.2.1.length = K0
 td : zH ds A K0 H W
 ge : aX aa gF 1 = (g : Int)
 g1 : 1 <= g
 gB : B = g * K1
 gK : K0 = g * Pr
 p1 : 1 <= Pr
 wc : dM aa x.2.1 [(K2 : Int), (K3 : Int)] = 0
 eH : lg aa x.2.1 [(K2 : Int), (K3 : Int)] = (H : Int)
 eW : lh aa x.2.1 [(K2 : Int), (K3 : Int)] = (W : Int)
theorem Xb {nm : aj} {ins : List (aj)} {out : aj} {aa : bk} {x : ca} {ts : List ca} (hn : n8 (cv, nm, ins, out, aa, ())) (h : qH (cv, nm, ins, out, aa, ()) (x :: ts) = 0) :
  ∃ y r A B C D K0 K1 K2 K3 H W g Pr, ts = y :: r /\ Pq aa x y r (j6 (cv, nm, ins, out, aa, ()) (aH x :: ts.map aH)) A B C D K0 K1 K2 K3 H W g Pr /\ oF aa (aH x :: ts.map aH) x.2.1 = true := by
 have hA : aD aa = true := hn.shA
 obtain ⟨hb, ho⟩ := j4 h
 rw [List.map_cons] at ho
 have hten := p8 hb
 have hck := vd ho.ck
 have hlen : (aH x :: ts.map aH).length = ins.length := ho.len
 have h2 : (cC cv).1 <= (ins.length : Int) := hck.least
 have h3 : (ins.length : Int) <= (cC cv).2.1 := hck.most
 have r2 : (cC cv).1 = 2 := by decide +kernel
 have r3 : (cC cv).2.1 = 3 := by decide +kernel
 rw [r2] at h2
 rw [r3] at h3
 simp only [List.length_cons, List.length_map] at hlen
 obtain ⟨y, r, rfl⟩ : ∃ y r, ts = y :: r := by
  cases ts with
  | nil => simp only [List.length_nil] at hlen; omega
  | cons y r => exact ⟨y, r, rfl⟩
 have hV : ∀ v ∈ aH x :: (y :: r).map aH, List.length v.2.2.1 <= 6 := fun v hv => (fL (ho.vals v hv).2).2.1
 obtain ⟨i1, i2⟩ := CY (xs := x.2.1) hA hV (by simp only [List.length_cons, List.length_map]; omega)
 have hd := zv (nm := nm) (ins := ins) (out := out) (aa := aa) (v := aH x) (vs := (y :: r).map aH)
 rw [show vL aa (aH x :: (y :: r).map aH) (aH x).2.2.1 = true from i1, ak] at hd
 have oM := ho.dm
 unfold zf at oM
 cases hK : oF aa (aH x :: (y :: r).map aH) x.2.1 with
 | false =>
  rw [show oF aa (aH x :: (y :: r).map aH) (aH x).2.2.1 = false from hK, ax, show (rH aa (aH x :: (y :: r).map aH) (aH x).2.2.1 == 0) = false from i2 hK] at hd
  rw [hd] at oM
  have oM : rH aa (aH x :: (y :: r).map aH) x.2.1 = 0 := oM
  have := i2 hK
  rw [oM] at this
  cases this
 | true =>
  rw [show oF aa (aH x :: (y :: r).map aH) (aH x).2.2.1 = true from hK, ak] at hd
  obtain ⟨w, k0, k1, k2, k3, hc⟩ := VR hA hK
  have hL : j6 (cv, nm, ins, out, aa, ()) (aH x :: (y :: r).map aH) = yV aa (aH x :: (y :: r).map aH) x.2.1 := by
   unfold j6
   rw [hd]
   rfl
  have hw : w = aH y := by
   have e := hc.i1
   exact (Option.some.inj e).symm
  subst hw
  have ks : y.2.1 = [k0, k1, k2, k3] := hc.ks
  obtain ⟨A, B, C, D, tx⟩ := p7 (hten x (by simp)) hc.xl
  obtain ⟨K0, K1, K2, K3, ty⟩ := p7 (hten y (by simp)) (by rw [ks]; rfl)
  have ke := ks.symm.trans ty.fr.eq
  injection ke with e0 ke
  injection ke with e1 ke
  injection ke with e2 ke
  injection ke with e3 ke
  subst e0 e1 e2 e3
  have xB : x.2.1.getD 1 0 = (B : Int) := by rw [tx.fr.eq]; rfl
  have xA : x.2.1.getD 0 0 = (A : Int) := by rw [tx.fr.eq]; rfl
  obtain ⟨g, hg⟩ := Int.eq_ofNat_of_zero_le (show 0 <= aX aa gF 1 by have := hc.g1; omega)
  have g1 : 1 <= g := by have := hc.g1; omega
  have bx := tx.fr.bnd
  have by' := ty.fr.bnd
  have bB := bx.b
  have hxg := hc.xg
  have hkg := hc.kg
  have hk1 := hc.k1e
  rw [xB, hg] at hxg hk1
  rw [hg] at hkg
  rw [← Int.ofNat_tmod] at hxg hkg
  rw [← Int.ofNat_tdiv] at hk1
  have dB := Nat.div_add_mod B g
  have dK := Nat.div_add_mod K0 g
  have mB : B % g = 0 := by omega
  have mK : K0 % g = 0 := by omega
  have lB : B / g <= B := Nat.div_le_self B g
  have hz : (0 : Int) <= ((B / g : Nat) : Int) := Int.natCast_nonneg _
  rw [aJ (show -9223372036854775808 <= ((B / g : Nat) : Int) by omega) (show ((B / g : Nat) : Int) < 9223372036854775808 by omega)] at hk1
  have k1e : K1 = B / g := by omega
  rw [mB, Nat.add_zero] at dB
  rw [mK, Nat.add_zero] at dK
  have iS : 1 <= K0 / g := by
   have := ty.fr.a
   rcases Nat.eq_zero_or_pos (K0 / g) with h0 | h0
   ·rw [h0, Nat.mul_zero] at dK; omega
   ·exact h0
  have hcnt := ho.cnt
  rw [hL, hc.out, xA] at hcnt
  obtain ⟨A', K', H, W, td⟩ := zx hcnt rfl
  have te := td.eq
  injection te with t0 te
  injection te with t1 te
  injection te with t2 te
  injection te with t3 te
  obtain rfl : A = A' := by omega
  obtain rfl : K0 = K' := by omega
  refine ⟨y, r, A, B, C, D, K0, K1, K2, K3, H, W, g, K0 / g, rfl, ⟨tx, ty, ?_, ?_, hg, g1, by rw [k1e]; exact dB.symm, dK.symm, iS, hc.wnd, t2, t3⟩, rfl⟩
  ·rcases hc.third with h4 | ⟨u, h4, h5⟩
   ·left
    simp only [List.length_cons, List.length_map] at h4
    exact List.eq_nil_of_length_eq_zero (by omega)
   ·right
    simp only [List.length_cons] at hlen
    cases r with
    | nil => cases h4
    | cons b r2 =>
     obtain rfl : r2 = [] := by
      simp only [List.length_cons] at hlen
      exact List.eq_nil_of_length_eq_zero (by omega)
     obtain rfl : aH b = u := Option.some.inj h4
     have h5 : b.2.1 = [(K0 : Int)] := h5
     refine ⟨b, rfl, h5, ?_⟩
     obtain ⟨_, n2, n3, _⟩ := EJ (hten b (by simp))
     obtain ⟨_, _, _, c4⟩ := fL n2
     rw [h5] at c4
     have e : cG [(K0 : Int)] = (K0 : Int) := by simp [cG]
     rw [h5] at n3
     omega
  ·rw [hL, hc.out, xA, t2, t3]
   exact ⟨rfl, td.a, td.b, td.c, td.d, td.p⟩
theorem Ht {a b c d i : Nat} (h : i < a * (b * (c * d))) (hb : 1 <= b) (hc : 1 <= c) (hd : 1 <= d) : nz [(a : Int), (b : Int), (c : Int), (d : Int)] i 0 < a /\ nz [(a : Int), (b : Int), (c : Int), (d : Int)] i 1 < b := by
 have e : pX (List.map Int.toNat [(a : Int), (b : Int), (c : Int), (d : Int)]) i = [i / (b * (c * (d * 1))), i % (b * (c * (d * 1))) / (c * (d * 1)), i % (b * (c * (d * 1))) % (c * (d * 1)) / (d * 1), i % (b * (c * (d * 1))) % (c * (d * 1)) % (d * 1) / 1] := rfl
 unfold nz
 rw [e]
 simp only [Nat.mul_one]
 have J2 : 0 < c * d := Nat.mul_pos hc hd
 have hbcd : 0 < b * (c * d) := Nat.mul_pos hb J2
 refine ⟨?_, ?_⟩
 ·show i / (b * (c * d)) < a
  exact Nat.div_lt_of_lt_mul (by rw [Nat.mul_comm]; exact h)
 ·show i % (b * (c * d)) / (c * d) < b
  exact Nat.div_lt_of_lt_mul (by rw [Nat.mul_comm (c * d) b]; exact Nat.mod_lt _ hbcd)
theorem zA {aa : bk} {x y : ca} {r : List ca} {ds : ag} {A B C D K0 K1 K2 K3 H W g Pr : Nat} (hA : aD aa = true) (h : Pq aa x y r ds A B C D K0 K1 K2 K3 H W g Pr) (J2 : aB ds = 0) : CR aa (x :: y :: r) ds = true := by
 have hlen := bQ hA
 have bx := h.tx.fr.bnd
 have bK := h.ty.fr.bnd
 have px := h.tx.fr.p
 have py := h.ty.fr.p
 have xl : x.2.1.length = 4 := by rw [h.tx.fr.eq]; rfl
 have yl : y.2.1.length = 4 := by rw [h.ty.fr.eq]; rfl
 have dl : ds.length = 4 := by rw [h.td.eq]; rfl
 have y0 : y.2.1.getD 0 0 = (K0 : Int) := by rw [h.ty.fr.eq]; rfl
 have y1 : y.2.1.getD 1 0 = (K1 : Int) := by rw [h.ty.fr.eq]; rfl
 have y2 : y.2.1.getD 2 0 = (K2 : Int) := by rw [h.ty.fr.eq]; rfl
 have y3 : y.2.1.getD 3 0 = (K3 : Int) := by rw [h.ty.fr.eq]; rfl
 have x1 : x.2.1.getD 1 0 = (B : Int) := by rw [h.tx.fr.eq]; rfl
 have eP : vM aa y.2.1 = (Pr : Int) := by
  unfold vM kA
  rw [y0, h.ge, ← Int.ofNat_tdiv, h.gK, Nat.mul_div_cancel_left _ (by have := h.g1; omega)]
  have : Pr <= g * Pr := nC h.g1
  have := h.gK
  have := bK.a
  rw [aJ (by omega) (by omega)]
 have eE : CQ y.2.1 = K1 := by unfold CQ; rw [y1]; rfl
 have eK : EZ y.2.1 = K2 * K3 := by
  unfold EZ
  rw [y2, y3, ← Int.natCast_mul]
  rfl
 have eN : qd ds = A * (K0 * (H * W)) := h.td.cnt
 have eQ := (jz (aa := aa) h.tx.fr (y.2.1.getD 2 0) (y.2.1.getD 3 0)).2
 have hpl2 : (u7 aa x.2.1 y.2.1).2.2.2.2.2.2.2.2.2.1 = ((C * D : Nat) : Int) := eQ
 have hg0 : l0 aa x.2.1 y.2.1 ds x.2.2.1.length y.2.2.1.length = true := by
  have b1 := bK.c
  have b2 := bK.d
  unfold l0
  rw [Pm hA xl h.wc, aE (show aa.length <= 9223372036854775807 /\ y.2.1.length = 4 /\ ds.length = 4 /\ aB ds = 0 from ⟨by omega, yl, dl, J2⟩), eP, y1, x1, hpl2, Int.toNat_natCast,
   aE (show aX aa kA 1 ≠ 0 /\ 1 <= (Pr : Int) /\ 0 <= (K1 : Int) /\ 0 <= (B : Int) /\ 0 <= ((C * D : Nat) : Int) from ⟨by unfold kA; rw [h.ge]; have := h.g1; omega, by have := h.p1; omega, Int.natCast_nonneg _, Int.natCast_nonneg _, Int.natCast_nonneg _⟩),
   aE (show x.2.2.1.length <= 2147483648 /\ y.2.2.1.length <= 2147483648 by rw [h.tx.len, h.ty.len]; omega)]
  unfold u7
  rw [y2, y3, CZ h.tx.fr ⟨Int.natCast_nonneg _, by omega⟩ ⟨Int.natCast_nonneg _, by omega⟩]
  rfl
 have hcv : ∀ i, i < qd ds -> W6 x.2.2.1.length y.2.2.1.length ds (x.2.1.getD 1 0).toNat (vM aa y.2.1).toNat (CQ y.2.1) (u7 aa x.2.1 y.2.1).2.2.2.2.2.2.2.2.2.1.toNat (EZ y.2.1) i /\ nz ds i 1 < K0 := by
  intro i hi
  rw [eN] at hi
  obtain ⟨c0, c1⟩ := Ht hi h.td.b h.td.c h.td.d
  rw [← h.td.eq] at c0 c1
  rw [x1, eP, eE, eK, hpl2, Int.toNat_natCast, Int.toNat_natCast, Int.toNat_natCast, h.tx.len, h.ty.len]
  unfold W6
  generalize nz ds i 0 = a at c0 ⊢
  generalize nz ds i 1 = b at c1 ⊢
  have hq : b / Pr < g := Nat.div_lt_of_lt_mul (by rw [Nat.mul_comm, ← h.gK]; exact c1)
  have s1 : b / Pr * K1 + K1 <= B := by
   have := Nat.mul_le_mul_right K1 (show b / Pr + 1 <= g by omega)
   rw [Nat.add_mul, Nat.one_mul, ← h.gB] at this
   exact this
  have s2 : a * B + B <= A * B := by
   have := Nat.mul_le_mul_right B (show a + 1 <= A by omega)
   rw [Nat.add_mul, Nat.one_mul] at this
   exact this
  have s3 : (a * B + b / Pr * K1 + K1) * (C * D) <= A * B * (C * D) := Nat.mul_le_mul_right _ (by omega)
  have s4 : b * K1 + K1 <= K0 * K1 := by
   have := Nat.mul_le_mul_right K1 (show b + 1 <= K0 by omega)
   rw [Nat.add_mul, Nat.one_mul] at this
   exact this
  have s5 : (b * K1 + K1) * (K2 * K3) <= K0 * K1 * (K2 * K3) := Nat.mul_le_mul_right _ s4
  rw [Nat.mul_assoc] at s3 s5
  have q1 := bx.ab
  have q2 := bK.ab
  have q3 := bK.a
  exact ⟨⟨by omega, s3, by omega, s5, by omega⟩, c1⟩
 rcases h.rr with rfl | ⟨b, rfl, _, hb⟩
 ·show (l0 aa x.2.1 y.2.1 ds x.2.2.1.length y.2.2.1.length && O3 aa x.2.1 y.2.1 ds x.2.2.1.length y.2.2.1.length) = true
  rw [hg0, Bool.true_and]
  exact aE fun i hi => (hcv i hi).1
 ·show (l0 aa x.2.1 y.2.1 ds x.2.2.1.length y.2.2.1.length && O5 aa x.2.1 y.2.1 ds x.2.2.1.length y.2.2.1.length b.2.2.1.length) = true
  rw [hg0, Bool.true_and, hb]
  exact aE fun i hi => hcv i hi
structure ag2 (aa : bk) (x : ca) (ds : List Int) (A B C D H W : Nat) (ka kb : Int) : Prop where
 tx : T4 x A B C D
 td : zH ds A B H W
 ka : 0 <= ka /\ ka <= 65536
 kb : 0 <= kb /\ kb <= 65536
 lk : CG aa x.2.1 = true
theorem Xc {op nm : aj} {ins : List (aj)} {out : aj} {aa : bk} {x : ca} {ts : List ca} (hp : op = lx \/ op = ly) (hn : n8 (op, nm, ins, out, aa, ())) (h : qH (op, nm, ins, out, aa, ()) (x :: ts) = 0) :
  ∃ A B C D H W ka kb, ag2 aa x (j6 (op, nm, ins, out, aa, ()) (aH x :: ts.map aH)) A B C D H W ka kb /\ ai aa dS [] = [ka, kb] /\ lg aa x.2.1 [ka, kb] = (H : Int) /\ lh aa x.2.1 [ka, kb] = (W : Int) := by
 have hA : aD aa = true := hn.shA
 obtain ⟨hb, ho⟩ := j4 h
 rw [List.map_cons] at ho
 have hten := p8 hb
 have hd := zw (nm := nm) (ins := ins) (out := out) (aa := aa) (v := aH x) (vs := ts.map aH) hp
 have oM := ho.dm
 have hcnt := ho.cnt
 unfold zf at oM
 have hL : j6 (op, nm, ins, out, aa, ()) (aH x :: ts.map aH) = ((plP aa x.2.1).getD (0, [])).2 := by unfold j6; rw [hd]; rfl
 rw [hL] at hcnt ⊢
 rw [hd] at oM
 have oM : ((plP aa x.2.1).getD (0, [])).1 = 0 := oM
 unfold plP at oM hcnt ⊢
 rw [hA, ak] at oM hcnt ⊢
 cases c1 : cy 2 1 100 (ai aa dS []) with
 | false => rw [c1] at oM; exact Hm oM
 | true =>
  rw [c1, ak] at oM hcnt
  rw [ak]
  cases c2 : Int.ofNat x.2.1.length == 4 with
  | false => rw [c2] at oM; exact Hm oM
  | true =>
   rw [c2, ak] at oM hcnt
   rw [ak]
   have hw : lS aa x.2.1 (ai aa dS []) = true := nB hA _ _ _ _
   rw [hw, ak] at oM hcnt ⊢
   cases c3 : dM aa x.2.1 (ai aa dS []) == 0 with
   | false =>
    rw [c3] at oM
    have oM : dM aa x.2.1 (ai aa dS []) = 0 := oM
    rw [oM] at c3
    cases c3
   | true =>
    rw [c3, ak] at oM hcnt
    rw [ak]
    cases c4 : n6 (ai aa dS []) 0 (ai aa Pk []) with
    | false => rw [c4] at oM; exact Hm oM
    | true =>
     rw [c4, ak] at hcnt
     rw [ak]
     have n2 := eq_of_beq c2
     simp only [aT] at n2
     obtain ⟨ka, kb, hk, a1, a2, a3, a4⟩ := acT c1
     obtain ⟨A, B, C, D, tx⟩ := p7 (hten x (by simp)) (by omega)
     have xA : x.2.1.getD 0 0 = (A : Int) := by rw [tx.fr.eq]; rfl
     have xB : x.2.1.getD 1 0 = (B : Int) := by rw [tx.fr.eq]; rfl
     have hcnt : aB [x.2.1.getD 0 0, x.2.1.getD 1 0, lg aa x.2.1 (ai aa dS []), lh aa x.2.1 (ai aa dS [])] = 0 := hcnt
     rw [xA, xB, hk] at hcnt
     obtain ⟨A', B', H, W, td⟩ := zx hcnt rfl
     have te := td.eq
     injection te with t0 te
     injection te with t1 te
     injection te with t2 te
     injection te with t3 te
     obtain rfl : A = A' := by omega
     obtain rfl : B = B' := by omega
     refine ⟨A, B, C, D, H, W, ka, kb, ⟨tx, ?_, ⟨by omega, by omega⟩, ⟨by omega, by omega⟩, Pm hA (by omega) (eq_of_beq c3)⟩, hk, t2, t3⟩
     have e : (Option.getD (some ((0 : Int), [x.2.1.getD 0 0, x.2.1.getD 1 0, lg aa x.2.1 (ai aa dS []), lh aa x.2.1 (ai aa dS [])])) (0, [])).2 = [(A : Int), (B : Int), (H : Int), (W : Int)] := by
      rw [xA, xB, hk, t2, t3]
      rfl
     exact ⟨e, td.a, td.b, td.c, td.d, td.p⟩
theorem Xd {nm : aj} {ins : List (aj)} {out : aj} {aa : bk} {x : ca} {ts : List ca} (hn : n8 (cS, nm, ins, out, aa, ())) (h : qH (cS, nm, ins, out, aa, ()) (x :: ts) = 0) :
  ∃ A B C D, ag2 aa x (j6 (cS, nm, ins, out, aa, ()) (aH x :: ts.map aH)) A B C D 1 1 (C : Int) (D : Int) := by
 have hA : aD aa = true := hn.shA
 obtain ⟨hb, ho⟩ := j4 h
 rw [List.map_cons] at ho
 have hten := p8 hb
 have hck := vd ho.ck
 have hat : jT (eT (cC cS).2.2.1) aa = 0 := hck.attr
 have hd := E4 (nm := nm) (ins := ins) (out := out) (aa := aa) (v := aH x) (vs := ts.map aH)
 have oM := ho.dm
 have hcnt := ho.cnt
 unfold zf at oM
 unfold j6 at hcnt ⊢
 rw [hd] at oM hcnt ⊢
 cases c2 : Int.ofNat x.2.1.length == 4 with
 | false => rw [show (Int.ofNat (List.length (aH x).2.2.1) == 4) = false from c2] at oM; exact Hm oM
 | true =>
  have n2 := eq_of_beq c2
  simp only [aT] at n2
  obtain ⟨A, B, C, D, tx⟩ := p7 (hten x (by simp)) (by omega)
  have b := tx.fr.bnd
  have bc := b.c
  have bd := b.d
  have e : (Option.getD (bif !Int.ofNat (List.length (aH x).2.2.1) == 4 then some (4, []) else (idx (aH x).2.2.1 0).bind fun a => (idx (aH x).2.2.1 1).bind fun b => some ((0 : Int), [a, b, 1, 1])) (0, [])).2 = [(A : Int), (B : Int), ((1 : Nat) : Int), ((1 : Nat) : Int)] := by
   rw [show (aH x).2.2.1 = [(A : Int), (B : Int), (C : Int), (D : Int)] from tx.fr.eq]
   rfl
  rw [e] at hcnt ⊢
  refine ⟨A, B, C, D, ⟨tx, ⟨rfl, tx.fr.a, tx.fr.b, Nat.le_refl _, Nat.le_refl _, by rw [Nat.mul_one]; exact b.ab⟩, ⟨by omega, by omega⟩, ⟨by omega, by omega⟩, Hs hA ?_ ?_ ?_ (by omega)⟩⟩
  ·rw [va hat (by decide +kernel)]; decide
  ·rw [va hat (by decide +kernel)]; decide
  ·rw [va hat (by decide +kernel)]; decide
theorem Hu {n : dL} {x : ca} {ts : List ca} (hn : n8 n) (hs : fg (x :: ts) = true) (hl : ts.length <= 2000000) : VJ n (x :: ts) = true := by
 obtain ⟨op, nm, ins, out, aa, u⟩ := n
 have hA : aD aa = true := hn.shA
 have hg : Da (op, nm, ins, out, aa, ()) (x :: ts) = true := p6 hn hs (by simp only [List.length_cons]; omega)
 show (Pb (op, nm, ins, out, aa, ()) (x :: ts)).isSome = true
 cases c : qH (op, nm, ins, out, aa, ()) (x :: ts) != 0 with
 | true => rw [Po hg c]; rfl
 | false =>
  have hz := l5 c
  have hv := vj hz
  cases c1 : op == cv with
  | true =>
   obtain rfl := eq_of_beq c1
   obtain ⟨y, r, A, B, C, D, K0, K1, K2, K3, H, W, g, Pr, rfl, hc, _⟩ := Xb hn hz
   have hcnt : aB (j6 (cv, nm, ins, out, aa, ()) (aH x :: (y :: r).map aH)) = 0 := (j4 hz).2.cnt
   have Kd : (j1 (cv, nm, ins, out, aa, ()) (x :: y :: r)).2.2.1 = j6 (cv, nm, ins, out, aa, ()) (aH x :: (y :: r).map aH) := by rw [hv, List.map_cons]
   have PB := zA hA hc hcnt
   rw [← Kd] at PB
   rw [zy hg hz PB]
   rfl
  | false =>
   by_cases c2 : op = lx \/ op = ly
   ·obtain ⟨A, B, C, D, H, W, ka, kb, hp, hk, _, _⟩ := Xc c2 hn hz
    have Kd : (j1 (op, nm, ins, out, aa, ()) (x :: ts)).2.2.1 = j6 (op, nm, ins, out, aa, ()) (aH x :: ts.map aH) := by rw [hv, List.map_cons]
    rw [zz c2 hg hz rfl Kd hA hk hp.lk (lz hp.tx.fr hp.td hp.tx.len hp.ka hp.kb)]
    rfl
   ·cases c4 : op == cS with
    | true =>
     obtain rfl := eq_of_beq c4
     obtain ⟨A, B, C, D, hp⟩ := Xd hn hz
     have Kd : (j1 (cS, nm, ins, out, aa, ()) (x :: ts)).2.2.1 = j6 (cS, nm, ins, out, aa, ()) (aH x :: ts.map aH) := by rw [hv, List.map_cons]
     rw [E5 hg hz rfl Kd hp.tx.fr.eq hp.lk (lz hp.tx.fr hp.td hp.tx.len hp.ka hp.kb)]
     rfl
    | false =>
     rw [Pp hg hz c1 (by simpa using fun h => c2 (.inl h)) (by simpa using fun h => c2 (.inr h)) c4]
     rfl
theorem mX {α : Type} (l : List α) {a b c d : Nat} (h : c + d <= b) : (((l.drop a).take b).drop c).take d = (l.drop (a + c)).take d := by
 rw [List.drop_take, List.take_take, List.drop_drop, Nat.min_eq_left (by omega)]
theorem VS {g : Nat -> ag} {L : Nat} (hg : ∀ i, (g i).length = L) {w m n : Nat} (h : w * m + m <= n) : (((List.range n).flatMap g).drop (w * (m * L))).take (m * L) = (List.range m).flatMap fun p => g (w * m + p) := by
 obtain ⟨r, rfl⟩ : ∃ r, n = w * m + (m + r) := ⟨n - (w * m + m), by omega⟩
 have e1 : ((List.range (w * m)).flatMap g).length = w * (m * L) := by rw [qI hg, List.length_range, Nat.mul_assoc]
 have e2 : ((List.range m).flatMap fun p => g (w * m + p)).length = m * L := by rw [qI (fun i => hg _), List.length_range]
 rw [List.range_add, List.flatMap_append, ← e1, List.drop_left, List.range_add, List.map_append, List.flatMap_append]
 have e3 : (List.map (fun x => w * m + x) (List.range m)).flatMap g = (List.range m).flatMap fun p => g (w * m + p) := by rw [List.flatMap_map]
 rw [e3, ← e2, List.take_left]
theorem Ps {d : Nat} {r : List Nat} {w j : Nat} (hj : j < bf r) : pX (d :: r) (w * bf r + j) = w :: pX r j := by
 have hp : 0 < bf r := by omega
 rw [pX, Nat.mul_comm w, Nat.mul_add_div hp, Nat.div_eq_of_lt hj, Nat.add_zero, Nat.mul_add_mod, Nat.mod_eq_of_lt hj]
theorem VT {xs : ag} (h1 : ∀ x ∈ xs, 1 <= x) (h2 : xs.length <= 6) (h3 : cG xs <= 65536) : aB xs = 0 /\ aR xs = cG xs := by
 have e1 : decide (bu (fun d => decide (d < 1)) xs >= 0) = false := by
  rw [pf, List.any_eq_false]
  intro x hx
  have := h1 x hx
  simp only [decide_eq_true_eq]
  omega
 have e2 : decide (Int.ofNat xs.length > 6) = false := de (by simp only [aT]; omega)
 have e3 : qz xs = false := by
  unfold qz
  exact de (by omega)
 unfold aB aR
 rw [e1, e2, e3]
 exact ⟨rfl, rfl⟩
theorem acZ {t : Int} {xd dt : ag} (h1 : bz t 0 = true) (h2 : aB xd = 0) (h3 : (dt.length : Int) = aR xd) (h4 : ∀ x ∈ dt, bz t x = true) : gG t xd dt = 0 := by
 unfold gG
 rw [h1, h2, show (Int.ofNat dt.length != aR xd) = false by rw [bne_eq_false_iff_eq]; exact h3, List.any_eq_false.2 (fun x hx => by rw [h4 x hx]; simp)]
 rfl
theorem zH.cntE {xs : ag} {A B C D : Nat} (h : zH xs A B C D) : aB xs = 0 /\ aR xs = ((A * (B * (C * D)) : Nat) : Int) := by
 have e := j3 [A, B, C, D]
 simp only [bf, Nat.mul_one] at e
 have e2 : ints [A, B, C, D] = xs := h.eq.symm
 rw [e2] at e
 have p := h.p
 obtain ⟨c1, c2⟩ := VT (xs := xs) (fun x hx => by
  rw [h.eq] at hx
  have := h.a; have := h.b; have := h.c; have := h.d
  simp only [List.mem_cons, List.not_mem_nil, or_false] at hx
  omega) (by rw [h.eq]; exact Nat.le_of_ble_eq_true rfl) (by rw [e]; omega)
 exact ⟨c1, c2.trans e⟩
def cK (x : ca) (B C D w : Nat) : ca := (x.1, [1, (B : Int), (C : Int), (D : Int)], (x.2.2.1.drop (w * (B * (C * D)))).take (B * (C * D)), ())
theorem Hv {l : ag} {A M w : Nat} (hl : l.length = A * M) (hw : w < A) : ((l.drop (w * M)).take M).length = M := by
 have := Nat.mul_le_mul_right M (show w + 1 <= A by omega)
 rw [Nat.add_mul, Nat.one_mul] at this
 rw [List.length_take, List.length_drop]
 omega
theorem zH.one {xs : ag} {A B C D : Nat} (h : zH xs A B C D) : zH [1, (B : Int), (C : Int), (D : Int)] 1 B C D :=
 ⟨rfl, Nat.le_refl _, h.b, h.c, h.d, by have := h.bnd.bcd; omega⟩
theorem oK {x : ca} {A B C D w : Nat} (h : T4 x A B C D) (hw : w < A) : T4 (cK x B C D w) 1 B C D :=
 ⟨h.fr.one, by
  show ((x.2.2.1.drop (w * (B * (C * D)))).take (B * (C * D))).length = _
  rw [Hv h.len hw, Nat.one_mul]⟩
theorem ac0 {x : ca} {A B C D w : Nat} (h : T4 x A B C D) (hw : w < A) (ht : gG x.1 x.2.1 x.2.2.1 = 0) : gG (cK x B C D w).1 (cK x B C D w).2.1 (cK x B C D w).2.2.1 = 0 := by
 obtain ⟨n1, _, _, n4⟩ := EJ ht
 have c := oK h hw
 refine acZ n1 c.fr.cntE.1 (by rw [c.fr.cntE.2, c.len]) fun v hv => n4 v ?_
 exact List.mem_of_mem_drop (List.mem_of_mem_take hv)
theorem Pt {op nm : aj} {ins : List (aj)} {out : aj} {aa : bk} {v w : (Y3).den} {vs : cg} {x0 x1 x2 x3 : Int} (ho : op = cv \/ (op = lx \/ op = ly) \/ op = cS) (hv : v.2.2.1 = [x0, x1, x2, x3]) (hw : w.2.2.1 = [1, x1, x2, x3]) :
  EP (op, nm, ins, out, aa, ()) (w :: vs) = (EP (op, nm, ins, out, aa, ()) (v :: vs)).map fun p => (p.1, p.2.set 0 1) := by
 rcases ho with rfl | ho | rfl
 ·rw [zv, zv, hv, hw]
  unfold vL oF yV rH
  rw [JS (v := v) (x0 := x0)]
  rcases nI aa (v :: vs) [x0, x1, x2, x3] with _ | l | e
  ·rfl
  ·rfl
  ·show (bif !(e == 0) then some (e, []) else none) = (bif !(e == 0) then some (e, []) else none).map _
   cases e == 0 <;> rfl
 ·rw [zw ho, zw ho, hv, hw]
  unfold plP
  simp only [Hr, Option.map_some, Option.map_none]
  rfl
 ·rw [E4, E4, hv, hw]
  rfl
theorem JT {op : aj} {aa : bk} {v w : (Y3).den} {vs : cg} (ho : op = cv \/ (op = lx \/ op = ly) \/ op = cS) (h : w.2.1 = v.2.1) : rI op aa (w :: vs) = rI op aa (v :: vs) := by
 have hal : ∀ t, kI (w :: vs) t = kI (v :: vs) t := fun t => by
  unfold kI
  rw [List.any_cons, List.any_cons, h]
 have key : ∀ (q : aj) (u : (Y3).den), q = cv \/ (q = lx \/ q = ly) \/ q = cS -> rI q aa (u :: vs) = bif u.2.1 == 6 then (bif decide ((u :: vs).length <= 9223372036854775807) then (bif !kI (u :: vs) 1 then some (0, 4) else some (u.2.1, 0)) else none) else (bif decide ((u :: vs).length <= 9223372036854775807) then (bif !kI (u :: vs) 1 then some (0, 4) else some (u.2.1, 0)) else none) := by
  intro q u hq
  unfold rI
  rw [yW]; simp only [cV, cB, si, ky, sj, sk, sl]
  simp only [GR, Ck, Cl, GS, N7, N8]
  rcases hq with rfl | (rfl | rfl) | rfl <;> kernel_rfl
 rw [key op w ho, key op v ho, h, hal]
 rfl
theorem Pu {a b c d y : Int} {l : ag} (h : l = [a, b, c, d]) : l.set 0 y = [y, b, c, d] := by rw [h]; rfl
theorem qK {op nm : aj} {ins : List (aj)} {out : aj} {aa : bk} {x : ca} {ts : List ca} {A B C D w A' K H W : Nat} (ho : op = cv \/ (op = lx \/ op = ly) \/ op = cS) (hx : T4 x A B C D) (hw : w < A)
  (h : qH (op, nm, ins, out, aa, ()) (x :: ts) = 0) (hd : zH (j6 (op, nm, ins, out, aa, ()) (aH x :: ts.map aH)) A' K H W) :
  qH (op, nm, ins, out, aa, ()) (cK x B C D w :: ts) = 0 /\ j6 (op, nm, ins, out, aa, ()) (aH (cK x B C D w) :: ts.map aH) = [1, (K : Int), (H : Int), (W : Int)] := by
 obtain ⟨hb, hk⟩ := j4 h
 rw [List.map_cons] at hk
 have hten := p8 hb
 have hc := oK hx hw
 have e := Pt (nm := nm) (ins := ins) (out := out) (aa := aa) (v := aH x) (w := aH (cK x B C D w)) (vs := ts.map aH) ho hx.fr.eq hc.fr.eq
 have eL : j6 (op, nm, ins, out, aa, ()) (aH (cK x B C D w) :: ts.map aH) = (j6 (op, nm, ins, out, aa, ()) (aH x :: ts.map aH)).set 0 1 := by
  unfold j6
  rw [e]
  cases EP (op, nm, ins, out, aa, ()) (aH x :: ts.map aH) <;> rfl
 have eC : zf (op, nm, ins, out, aa, ()) (aH (cK x B C D w) :: ts.map aH) = zf (op, nm, ins, out, aa, ()) (aH x :: ts.map aH) := by
  unfold zf
  rw [e]
  cases EP (op, nm, ins, out, aa, ()) (aH x :: ts.map aH) <;> rfl
 have et : rI op aa (aH (cK x B C D w) :: ts.map aH) = rI op aa (aH x :: ts.map aH) := JT ho rfl
 rw [Pu hd.eq] at eL
 refine ⟨acY ?_ ?_, eL⟩
 ·refine List.all_eq_true.2 fun t ht => ?_
  rcases List.mem_cons.1 ht with rfl | ht
  ·rw [ac0 hx hw (hten x (by simp))]
   rfl
  ·rw [hten t (by simp [ht])]
   rfl
 ·rw [List.map_cons]
  refine ⟨hk.ck, hk.len, fun v hv => ?_, ?_, eC.trans hk.dm, ?_, ?_⟩
  ·rcases List.mem_cons.1 hv with rfl | hv
   ·exact ⟨(hk.vals (aH x) (by simp)).1, hc.fr.cntE.1⟩
   ·exact hk.vals v (by simp [hv])
  ·have := hk.typ
   unfold mR at this ⊢
   rw [show rI _ _ (aH (cK x B C D w) :: ts.map aH) = _ from et]
   exact this
  ·rw [eL]
   exact hd.one.cntE.1
  ·have := hk.thn
   unfold pN at this ⊢
   rw [show rI _ _ (aH (cK x B C D w) :: ts.map aH) = _ from et]
   exact this
theorem ac1 (aP gV : ag) (h w s : Int) (a1 a2 a3 a4 : Int) (a5 a6 : ag) (a7 a8 p p' q : Int) : OY aP gV (a1, a2, a3, a4, a5, a6, a7, a8, p, q, ()) h w s = OY aP gV (a1, a2, a3, a4, a5, a6, a7, a8, p', q, ()) h w s := rfl
theorem ac2 {aP gV : ag} {h w s : Int} {aa : bk} {x0 y0 x1 x2 x3 kh kw : Int} : OY aP gV (kc aa [x0, x1, x2, x3] kh kw) h w s = OY aP gV (kc aa [y0, x1, x2, x3] kh kw) h w s :=
 ac1 aP gV h w s x2 x3 kh kw (prL aa lU) (prL aa lV) _ _ _ _ _
theorem ac3 {op : aj} {aP : ag} {aa : bk} {x0 y0 x1 x2 x3 kh kw : Int} {H W : Nat} : OP op aP (kc aa [x0, x1, x2, x3] kh kw) H W = OP op aP (kc aa [y0, x1, x2, x3] kh kw) H W := by
 unfold OP
 congr 1
theorem C0 {g f : Nat -> ag} : ∀ {l : List Nat}, (∀ i ∈ l, g i = f i) -> l.flatMap g = l.flatMap f
 | [], _ => rfl
 | i :: l, h => by rw [List.flatMap_cons, List.flatMap_cons, h i (by simp), C0 fun j hj => h j (by simp [hj])]
theorem vk {α β : Type} {g f : β -> α -> β} : ∀ {l : List α} {s : β}, (∀ s, ∀ x ∈ l, g s x = f s x) -> l.foldl g s = l.foldl f s
 | [], _, _ => rfl
 | x :: l, s, h => by rw [List.foldl_cons, List.foldl_cons, h s x (by simp), vk fun s y hy => h s y (by simp [hy])]
theorem VU {op : aj} {data : ag} {aa : bk} {x1 x2 x3 kh kw x0 : Int} {A B pn H W w : Nat} (hw : w < A) :
  CJ op ((data.drop (w * (B * pn))).take (B * pn)) (kc aa [1, x1, x2, x3] kh kw) B pn H W = ((CJ op data (kc aa [x0, x1, x2, x3] kh kw) (A * B) pn H W).drop (w * (B * (H * W)))).take (B * (H * W)) := by
 have hAB : w * B + B <= A * B := by
  have := Nat.mul_le_mul_right B (show w + 1 <= A by omega)
  rw [Nat.add_mul, Nat.one_mul] at this
  exact this
 unfold CJ
 rw [VS (g := fun p => OP op (PT data pn p) (kc aa [x0, x1, x2, x3] kh kw) H W) (fun i => zn _ _ _ _ _) hAB]
 refine C0 fun p hp => ?_
 have hp := List.mem_range.1 hp
 have hpB : p * pn + pn <= B * pn := by
  have := Nat.mul_le_mul_right pn (show p + 1 <= B by omega)
  rw [Nat.add_mul, Nat.one_mul] at this
  exact this
 rw [ac3 (x0 := x0) (y0 := 1)]
 congr 1
 unfold PT
 rw [mX _ hpB, Nat.add_mul, Nat.mul_assoc]
theorem ac4 {op : aj} {data : ag} {v : bp} {P pn H W : Nat} : (CJ op data v P pn H W).length = P * (H * W) := by
 unfold CJ
 rw [qI (fun i => zn _ _ _ _ _), List.length_range]
theorem C1 {α : Type} {g : Nat -> α} {w M n : Nat} (h : w * M + M <= n) : (((List.range n).map g).drop (w * M)).take M = (List.range M).map fun j => g (w * M + j) := by
 obtain ⟨r, rfl⟩ : ∃ r, n = w * M + (M + r) := ⟨n - (w * M + M), by omega⟩
 have e1 : ((List.range (w * M)).map g).length = w * M := by rw [List.length_map, List.length_range]
 have e2 : ((List.range M).map fun j => g (w * M + j)).length = M := by rw [List.length_map, List.length_range]
 rw [List.range_add, List.map_append]
 have e4 : List.drop (w * M) (List.map g (List.range (w * M)) ++ List.map g (List.map (fun x => w * M + x) (List.range (M + r)))) = List.map g (List.map (fun x => w * M + x) (List.range (M + r))) := by
  have := List.drop_left (l₁ := List.map g (List.range (w * M))) (l₂ := List.map g (List.map (fun x => w * M + x) (List.range (M + r))))
  rw [e1] at this
  exact this
 rw [e4, List.range_add, List.map_append, List.map_append, List.map_map]
 have e5 := List.take_left (l₁ := List.map (g ∘ fun x => w * M + x) (List.range M)) (l₂ := List.map g (List.map (fun x => w * M + x) (List.map (fun x => M + x) (List.range r))))
 rw [List.length_map, List.length_range] at e5
 exact e5
theorem dgs {A K H W w j : Nat} (hj : j < K * (H * W)) : nz [(A : Int), (K : Int), (H : Int), (W : Int)] (w * (K * (H * W)) + j) 0 = w /\ ∀ k, nz [(A : Int), (K : Int), (H : Int), (W : Int)] (w * (K * (H * W)) + j) (k + 1) = (pX [K, H, W] j).getD k 0 := by
 have e : bf [K, H, W] = K * (H * W) := by simp only [bf, Nat.mul_one]
 have e2 : pX (List.map Int.toNat [(A : Int), (K : Int), (H : Int), (W : Int)]) (w * (K * (H * W)) + j) = w :: pX [K, H, W] j := by
  rw [← e] at hj ⊢
  exact Ps hj
 unfold nz
 rw [e2]
 exact ⟨rfl, fun k => rfl⟩
theorem VV {xd yd : ag} {aa : bk} {x0 x1 x2 x3 kh kw : Int} {A K H W B Pr E pn kn w j : Nat} (hj : j < K * (H * W)) (hq : ∀ c, c < K -> c / Pr * E + E <= B) (hc : (pX [K, H, W] j).getD 0 0 < K) :
  nN ((xd.drop (w * (B * pn))).take (B * pn)) yd (kc aa [1, x1, x2, x3] kh kw) [((1 : Nat) : Int), (K : Int), (H : Int), (W : Int)] B Pr E pn kn j =
   nN xd yd (kc aa [x0, x1, x2, x3] kh kw) [(A : Int), (K : Int), (H : Int), (W : Int)] B Pr E pn kn (w * (K * (H * W)) + j) := by
 obtain ⟨a0, a1⟩ := dgs (A := A) (w := w) hj
 obtain ⟨b0, b1⟩ := dgs (A := 1) (w := 0) hj
 rw [Nat.zero_mul, Nat.zero_add] at b0 b1
 unfold nN
 rw [a0, b0, a1 0, b1 0, a1 1, b1 1, a1 2, b1 2]
 generalize (pX [K, H, W] j).getD 0 0 = c at hc ⊢
 generalize (pX [K, H, W] j).getD 1 0 = c2
 generalize (pX [K, H, W] j).getD 2 0 = c3
 have hB := hq c hc
 unfold cvC
 refine vk fun s ch hch => ?_
 have hch := List.mem_range.1 hch
 rw [ac2 (x0 := 1) (y0 := x0)]
 congr 1
 have h2 : (c / Pr * E + ch) * pn + pn <= B * pn := by
  have := Nat.mul_le_mul_right pn (show c / Pr * E + ch + 1 <= B by omega)
  rw [Nat.add_mul _ 1, Nat.one_mul] at this
  exact this
 rw [Nat.zero_mul, Nat.zero_add, mX _ h2]
 congr 2
 rw [Nat.add_assoc (w * B), Nat.add_mul (w * B), Nat.mul_assoc w B pn]
structure cz (a b : List Int) (A w : Nat) : Prop where
 ex : ∃ M, a.length = A * M /\ A * M <= 65536 /\ b = (a.drop (w * M)).take M
theorem mY {n : dL} {ts : List ca} {p : ca × Int} (h : Pb n ts = some p) : Dd n ts = p.2 /\ pY n ts = p.1 := by
 unfold Dd pY
 rw [h]
 exact ⟨rfl, rfl⟩
theorem xm {aa : bk} {x y : ca} {r : List ca} {ds : ag} {A B C D K0 K1 K2 K3 H W g Pr w : Nat} (h : Pq aa x y r ds A B C D K0 K1 K2 K3 H W g Pr) (hw : w < A) :
  Pq aa (cK x B C D w) y r [1, (K0 : Int), (H : Int), (W : Int)] 1 B C D K0 K1 K2 K3 H W g Pr := by
 have e2 : x.2.1 = [(A : Int), (B : Int), (C : Int), (D : Int)] := h.tx.fr.eq
 have hwc := h.wc
 have hH := h.eH
 have hW := h.eW
 rw [e2] at hwc hH hW
 exact ⟨oK h.tx hw, h.ty, h.rr, h.td.one, h.ge, h.g1, h.gB, h.gK, h.p1, hwc, hH, hW⟩
theorem Pv {aa : bk} {x y : ca} {r : List ca} {ds : ag} {A B C D K0 K1 K2 K3 H W g Pr w : Nat} (h : Pq aa x y r ds A B C D K0 K1 K2 K3 H W g Pr) (hw : w < A) :
  cz (xk aa (x :: y :: r) ds) (xk aa (cK x B C D w :: y :: r) [1, (K0 : Int), (H : Int), (W : Int)]) A w := by
 have h' := xm h hw
 have eN : qd ds = A * (K0 * (H * W)) := h.td.cnt
 have eN' : qd [1, (K0 : Int), (H : Int), (W : Int)] = 1 * (K0 * (H * W)) := h'.td.cnt
 have xe := h.tx.fr.eq
 have hwM : w * (K0 * (H * W)) + K0 * (H * W) <= A * (K0 * (H * W)) := by
  have := Nat.mul_le_mul_right (K0 * (H * W)) (show w + 1 <= A by omega)
  rw [Nat.add_mul, Nat.one_mul] at this
  exact this
 have y1 : CQ y.2.1 = K1 := by unfold CQ; rw [h.ty.fr.eq]; rfl
 have eQ := (jz (aa := aa) h.tx.fr (y.2.1.getD 2 0) (y.2.1.getD 3 0)).2
 have hpl' := (jz (aa := aa) h'.tx.fr (y.2.1.getD 2 0) (y.2.1.getD 3 0)).2
 have q1 : (u7 aa x.2.1 y.2.1).2.2.2.2.2.2.2.2.2.1 = ((C * D : Nat) : Int) := eQ
 have q2 : (u7 aa (cK x B C D w).2.1 y.2.1).2.2.2.2.2.2.2.2.2.1 = ((C * D : Nat) : Int) := hpl'
 have x1 : (x.2.1.getD 1 0).toNat = B := by rw [xe]; rfl
 have x1' : ((cK x B C D w).2.1.getD 1 0).toNat = B := rfl
 have hq : ∀ c, c < K0 -> c / (vM aa y.2.1).toNat * K1 + K1 <= B := fun c hc => by
  have eP : vM aa y.2.1 = (Pr : Int) := by
   have y0 : y.2.1.getD 0 0 = (K0 : Int) := by rw [h.ty.fr.eq]; rfl
   unfold vM kA
   rw [y0, h.ge, ← Int.ofNat_tdiv, h.gK, Nat.mul_div_cancel_left _ (by have := h.g1; omega)]
   have : Pr <= g * Pr := nC h.g1
   have := h.gK
   have := h.ty.fr.bnd.a
   rw [aJ (by omega) (by omega)]
  rw [eP, Int.toNat_natCast]
  have hd : c / Pr < g := Nat.div_lt_of_lt_mul (by rw [Nat.mul_comm, ← h.gK]; exact hc)
  have := Nat.mul_le_mul_right K1 (show c / Pr + 1 <= g by omega)
  rw [Nat.add_mul, Nat.one_mul, ← h.gB] at this
  exact this
 have hcell : ∀ j, j < K0 * (H * W) -> (pX [K0, H, W] j).getD 0 0 < K0 := fun j hj => by
  have c := (Ht (a := 1) (b := K0) (c := H) (d := W) (i := j) (by omega) h.td.b h.td.c h.td.d).2
  have e := (dgs (A := 1) (w := 0) hj).2 0
  rw [Nat.zero_mul, Nat.zero_add] at e
  rw [← e]
  exact c
 have hcv : ∀ j, j < K0 * (H * W) -> nN (cK x B C D w).2.2.1 y.2.2.1 (u7 aa (cK x B C D w).2.1 y.2.1) [1, (K0 : Int), (H : Int), (W : Int)] ((cK x B C D w).2.1.getD 1 0).toNat (vM aa y.2.1).toNat (CQ y.2.1) (u7 aa (cK x B C D w).2.1 y.2.1).2.2.2.2.2.2.2.2.2.1.toNat (EZ y.2.1) j =
   nN x.2.2.1 y.2.2.1 (u7 aa x.2.1 y.2.1) ds (x.2.1.getD 1 0).toNat (vM aa y.2.1).toNat (CQ y.2.1) (u7 aa x.2.1 y.2.1).2.2.2.2.2.2.2.2.2.1.toNat (EZ y.2.1) (w * (K0 * (H * W)) + j) := fun j hj => by
  rw [q1, q2, x1, x1', y1, Int.toNat_natCast, h.td.eq, xe]
  exact VV hj hq (hcell j hj)
 refine ⟨K0 * (H * W), ?_⟩
 rcases h.rr with rfl | ⟨b, rfl, _, _⟩
 ·show (E0 aa x.2.1 x.2.2.1 y.2.1 y.2.2.1 ds).length = _ /\ _ /\ E0 aa (cK x B C D w).2.1 (cK x B C D w).2.2.1 y.2.1 y.2.2.1 [1, (K0 : Int), (H : Int), (W : Int)] = List.take _ (List.drop _ (E0 aa x.2.1 x.2.2.1 y.2.1 y.2.2.1 ds))
  rw [CT, CT, eN, eN', Nat.one_mul, C1 hwM, List.length_map, List.length_range]
  exact ⟨rfl, h.td.p, List.map_congr_left fun j hj => hcv j (List.mem_range.1 hj)⟩
 ·show (E2 aa x.2.1 x.2.2.1 y.2.1 y.2.2.1 b.2.2.1 ds).length = _ /\ _ /\ E2 aa (cK x B C D w).2.1 (cK x B C D w).2.2.1 y.2.1 y.2.2.1 b.2.2.1 [1, (K0 : Int), (H : Int), (W : Int)] = List.take _ (List.drop _ (E2 aa x.2.1 x.2.2.1 y.2.1 y.2.2.1 b.2.2.1 ds))
  rw [CU, CU, eN, eN', Nat.one_mul, C1 hwM, List.length_map, List.length_range]
  refine ⟨rfl, h.td.p, List.map_congr_left fun j hj => ?_⟩
  have hj := List.mem_range.1 hj
  unfold n7
  rw [hcv j hj]
  have e1 : nz ds (w * (K0 * (H * W)) + j) 1 = nz [1, (K0 : Int), (H : Int), (W : Int)] j 1 := by
   rw [h.td.eq, (dgs (A := A) (w := w) hj).2 0]
   have e := (dgs (A := 1) (w := 0) hj).2 0
   rw [Nat.zero_mul, Nat.zero_add] at e
   exact e.symm
  rw [e1]
theorem C2 {op : aj} {aa : bk} {x : ca} {A B C D H W w : Nat} {ka kb : Int} (hx : T4 x A B C D) (hw : w < A) (hm : A * (B * (H * W)) <= 65536) :
  cz (CJ op x.2.2.1 (kc aa x.2.1 ka kb) (kc aa x.2.1 ka kb).2.2.2.2.2.2.2.2.1.toNat (kc aa x.2.1 ka kb).2.2.2.2.2.2.2.2.2.1.toNat H W)
   (CJ op (cK x B C D w).2.2.1 (kc aa (cK x B C D w).2.1 ka kb) (kc aa (cK x B C D w).2.1 ka kb).2.2.2.2.2.2.2.2.1.toNat (kc aa (cK x B C D w).2.1 ka kb).2.2.2.2.2.2.2.2.2.1.toNat H W) A w := by
 obtain ⟨p1, p2⟩ := jz (aa := aa) hx.fr ka kb
 obtain ⟨r1, r2⟩ := jz (aa := aa) (oK hx hw).fr ka kb
 rw [p1, p2, r1, r2, Int.toNat_natCast, Int.toNat_natCast, Int.toNat_natCast, Nat.one_mul, hx.fr.eq]
 refine ⟨B * (H * W), by rw [ac4, Nat.mul_assoc], hm, ?_⟩
 exact VU hw
theorem Hw {n : dL} {x : ca} {ts : List ca} (hn : n8 n) (hs : fg (x :: ts) = true) (hl : ts.length <= 2000000) (h0 : Dd n (x :: ts) = 0) :
  ∃ A B C D, T4 x A B C D /\ ∀ w, w < A -> (fg (cK x B C D w :: ts) = true -> Dd n (cK x B C D w :: ts) = 0 /\ cz (pY n (x :: ts)).2.2.1 (pY n (cK x B C D w :: ts)).2.2.1 A w) := by
 obtain ⟨op, nm, ins, out, aa, u⟩ := n
 have hA : aD aa = true := hn.shA
 have hg : Da (op, nm, ins, out, aa, ()) (x :: ts) = true := p6 hn hs (by simp only [List.length_cons]; omega)
 have h0 : Dd (op, nm, ins, out, aa, ()) (x :: ts) = 0 := h0
 show ∃ A B C D, T4 x A B C D /\ ∀ w, w < A -> (fg (cK x B C D w :: ts) = true -> Dd (op, nm, ins, out, aa, ()) (cK x B C D w :: ts) = 0 /\ cz (pY (op, nm, ins, out, aa, ()) (x :: ts)).2.2.1 (pY (op, nm, ins, out, aa, ()) (cK x B C D w :: ts)).2.2.1 A w)
 have hz : qH (op, nm, ins, out, aa, ()) (x :: ts) = 0 := by
  cases c : qH (op, nm, ins, out, aa, ()) (x :: ts) != 0 with
  | false => exact l5 c
  | true =>
   rw [(mY (Po hg c)).1] at h0
   exact h0
 have hv := vj hz
 cases c1 : op == cv with
 | true =>
  obtain rfl := eq_of_beq c1
  obtain ⟨y, r, A, B, C, D, K0, K1, K2, K3, H, W, g, Pr, rfl, hc, _⟩ := Xb hn hz
  have hcnt : aB (j6 (cv, nm, ins, out, aa, ()) (aH x :: (y :: r).map aH)) = 0 := (j4 hz).2.cnt
  have Kd : (j1 (cv, nm, ins, out, aa, ()) (x :: y :: r)).2.2.1 = j6 (cv, nm, ins, out, aa, ()) (aH x :: (y :: r).map aH) := by rw [hv, List.map_cons]
  have PB := zA hA hc hcnt
  rw [← Kd] at PB
  have e := mY (zy hg hz PB)
  refine ⟨A, B, C, D, hc.tx, fun w hw hsw => ?_⟩
  obtain ⟨oz, oL⟩ := qK (.inl rfl) hc.tx hw hz hc.td
  have xv : Da (cv, nm, ins, out, aa, ()) (cK x B C D w :: y :: r) = true := p6 hn hsw (by simp only [List.length_cons] at hl ⊢; omega)
  have hc' := xm hc hw
  have hgt' := zA hA hc' hc'.td.cntE.1
  have hds1 : (j1 (cv, nm, ins, out, aa, ()) (cK x B C D w :: y :: r)).2.2.1 = j6 (cv, nm, ins, out, aa, ()) (aH (cK x B C D w) :: (y :: r).map aH) := by rw [vj oz, List.map_cons]
  have hds' := hds1.trans oL
  rw [← hds'] at hgt'
  have e' := mY (zy xv oz hgt')
  refine ⟨e'.1, ?_⟩
  rw [e.2, e'.2, hds']
  show cz (xk aa (x :: y :: r) (j1 (cv, nm, ins, out, aa, ()) (x :: y :: r)).2.2.1) _ A w
  rw [Kd]
  exact Pv hc hw
 | false =>
  by_cases c2 : op = lx \/ op = ly
  ·obtain ⟨A, B, C, D, H, W, ka, kb, hp, hk, _, _⟩ := Xc c2 hn hz
   have Kd : (j1 (op, nm, ins, out, aa, ()) (x :: ts)).2.2.1 = j6 (op, nm, ins, out, aa, ()) (aH x :: ts.map aH) := by rw [hv, List.map_cons]
   have e := mY (zz c2 hg hz rfl (Kd.trans hp.td.eq) hA hk hp.lk (by rw [← hp.td.eq]; exact lz hp.tx.fr hp.td hp.tx.len hp.ka hp.kb))
   refine ⟨A, B, C, D, hp.tx, fun w hw hsw => ?_⟩
   obtain ⟨oz, oL⟩ := qK (.inr (.inl c2)) hp.tx hw hz hp.td
   have xv : Da (op, nm, ins, out, aa, ()) (cK x B C D w :: ts) = true := p6 hn hsw (by simp only [List.length_cons]; omega)
   have hds1 : (j1 (op, nm, ins, out, aa, ()) (cK x B C D w :: ts)).2.2.1 = j6 (op, nm, ins, out, aa, ()) (aH (cK x B C D w) :: ts.map aH) := by rw [vj oz, List.map_cons]
   have hds' := hds1.trans oL
   have ht := oK hp.tx hw
   have PC : CG aa (cK x B C D w).2.1 = true := by
    have := hp.lk
    rw [hp.tx.fr.eq] at this
    exact this
   have e' := mY (zz c2 xv oz rfl hds' hA hk PC (lz ht.fr hp.td.one ht.len hp.ka hp.kb))
   refine ⟨e'.1, ?_⟩
   rw [e.2, e'.2]
   exact C2 hp.tx hw hp.td.p
  ·cases c4 : op == cS with
   | true =>
    obtain rfl := eq_of_beq c4
    obtain ⟨A, B, C, D, hp⟩ := Xd hn hz
    have Kd : (j1 (cS, nm, ins, out, aa, ()) (x :: ts)).2.2.1 = j6 (cS, nm, ins, out, aa, ()) (aH x :: ts.map aH) := by rw [hv, List.map_cons]
    have e := mY (E5 hg hz rfl (Kd.trans hp.td.eq) hp.tx.fr.eq hp.lk (by rw [← hp.td.eq]; exact lz hp.tx.fr hp.td hp.tx.len hp.ka hp.kb))
    refine ⟨A, B, C, D, hp.tx, fun w hw hsw => ?_⟩
    obtain ⟨oz, oL⟩ := qK (.inr (.inr rfl)) hp.tx hw hz hp.td
    have xv : Da (cS, nm, ins, out, aa, ()) (cK x B C D w :: ts) = true := p6 hn hsw (by simp only [List.length_cons]; omega)
    have hds1 : (j1 (cS, nm, ins, out, aa, ()) (cK x B C D w :: ts)).2.2.1 = j6 (cS, nm, ins, out, aa, ()) (aH (cK x B C D w) :: ts.map aH) := by rw [vj oz, List.map_cons]
    have hds' := hds1.trans oL
    have ht := oK hp.tx hw
    have PC : CG aa (cK x B C D w).2.1 = true := by
     have := hp.lk
     rw [hp.tx.fr.eq] at this
     exact this
    have e' := mY (E5 xv oz rfl hds' ht.fr.eq PC (lz ht.fr hp.td.one ht.len hp.ka hp.kb))
    refine ⟨e'.1, ?_⟩
    rw [e.2, e'.2]
    exact C2 hp.tx hw hp.td.p
   | false =>
    rw [(mY (Pp hg hz c1 (by simpa using fun h => c2 (.inl h)) (by simpa using fun h => c2 (.inr h)) c4)).1] at h0
    exact absurd h0 (by decide)
def zB (a b : ca) (w m i : Int) : LSt := { fr := aw 8 [(2, I w), (7, .op 0 [] 0), (12, .op 1 [] 0), (14, I m), (15, I i)], hp := [(0, .box (.d (Y0) a)), (1, .box (.d (Y0) b))], nx := 2 }
theorem Xe (a b : ca) (w m i : Int) (n : Nat) {R : Type} (k : AEx -> LSt -> Option R) : lp lu eM vN (n + 1) (zB a b w m i) k = bif decide (i < m) then (idx b.2.2.1 i).bind fun v1 => (idx a.2.2.1 (i64.wrap (i64.wrap (w * m) + i))).bind fun v2 => bif v1 != v2 then k AEx.ret { fr := aw 8 [(2, I w), (6, B false), (7, AV.op 0 [] 0), (12, AV.op 1 [] 0), (14, I m), (15, I i), (128, I i), (129, I m), (130, B true), (133, AV.op 1 [2] 2), (134, AV.d (af).slice b.2.2.1), (135, I i), (136, AV.ip (af) v1), (137, I v1), (138, AV.op 0 [2] 2), (139, AV.d (af).slice a.2.2.1), (140, I w), (141, I m), (142, I (i64.wrap (w * m))), (143, I i), (144, I (i64.wrap (i64.wrap (w * m) + i))), (145, AV.ip (af) v2), (146, I v2), (147, B true)], hp := [(0, al.box (AV.d Y0 a)), (1, al.box (AV.d Y0 b))], nx := 2 } else lp lu eM vN n (zB a b w m (i64.wrap (i + 1))) k else k (AEx.exit 0) { fr := aw 8 [(2, I w), (7, AV.op 0 [] 0), (12, AV.op 1 [] 0), (14, I m), (15, I i), (128, I i), (129, I m), (130, B false)], hp := [(0, al.box (AV.d Y0 a)), (1, al.box (AV.d Y0 b))], nx := 2 } := by kernel_rfl
theorem Hx {f : Unit -> Nat -> Nx Unit (aq × LHp)} {r : Option (aq × LHp)} : ∀ l : List Nat, (∀ i ∈ l, f () i = .go ()) -> cm f (fun _ => r) l () = r
 | [], _ => rfl
 | i :: l, h => by
  rw [cm, h i (by simp)]
  exact Hx l fun j hj => h j (by simp [hj])
theorem ac5 {a b : ca} {w M : Nat} (hM : M <= 65536) (hw : w * M <= 65536) (hb : b.2.2.1.length = M) (ha : w * M + M <= a.2.2.1.length) (he : b.2.2.1 = (a.2.2.1.drop (w * M)).take M) :
  lp lu eM vN fu (zB a b (w : Int) (M : Int) 0) W9 = some (.ret [B true], []) := by
 have hm : maxLen = 9223372036854775807 := by decide
 refine (iE (N := M) (T := fun n s => lp lu eM vN n s W9) (st := fun (i : Int) (_ : Unit) => zB a b (w : Int) (M : Int) i) (f := fun (_ : Unit) (_ : Nat) => Nx.go ()) (fin := fun _ => some (.ret [B true], [])) (fun (_ : Nat) (_ : Unit) => True) (by omega) ?_ ?_ (a := ()) trivial).trans (Hx _ fun _ _ => rfl)
 ·intro i _ n _ hi hw1 hd
  have e1 : i64.wrap ((w : Int) * (M : Int)) = ((w * M : Nat) : Int) := p5 hw
  have e2 : i64.wrap (((w * M : Nat) : Int) + (i : Int)) = ((w * M + i : Nat) : Int) := by
   rw [show ((w * M : Nat) : Int) + (i : Int) = ((w * M + i : Nat) : Int) from (Int.natCast_add _ _).symm, aJ (by omega) (by omega)]
  have g1 := aK (xs := b.2.2.1) (i := i) (by omega)
  have g2 := aK (xs := a.2.2.1) (i := w * M + i) (by omega)
  have g3 : b.2.2.1.getD i 0 = a.2.2.1.getD (w * M + i) 0 := by
   rw [he, List.getD_eq_getElem?_getD, List.getD_eq_getElem?_getD, List.getElem?_take_of_lt hi, List.getElem?_drop]
  have h := Xe a b (w : Int) (M : Int) (i : Int) n W9
  have rQ : decide ((i : Int) < (M : Int)) = true := hd
  rw [rQ, ak, g1, aA, e1, e2, g2, aA, g3, hw1, show (a.2.2.1.getD (w * M + i) 0 != a.2.2.1.getD (w * M + i) 0) = false from bne_self_eq_false _, ax] at h
  exact .inl ⟨(), rfl, trivial, h⟩
 ·intro _ n _ hd
  show lp _ _ _ (n + 1) (zB a b (w : Int) (M : Int) (M : Int)) _ = _
  have rQ : decide ((M : Int) < (M : Int)) = false := hd
  rw [Xe, rQ, ax]
  show _ = _
  kernel_rfl
theorem ag4 (a b : ca) (w m : Int) : hlp lu eM vN (aq × LHp) (zB a b w m 0) W9 = lp lu eM vN fu (zB a b w m 0) W9 := rfl
theorem ac6 {n : dL} {x : ca} {ts : List ca} {A Bq C D w : Nat} (hn : n8 n) (hs : fg (x :: ts) = true) (hl : ts.length <= 2000000) (hx : T4 x A Bq C D) (hw : w < A)
  (hp : fg (cK x Bq C D w :: ts) = true -> Dd n (cK x Bq C D w :: ts) = 0 /\ cz (pY n (x :: ts)).2.2.1 (pY n (cK x Bq C D w :: ts)).2.2.1 A w) :
  ((idx x.2.1 0).bind fun v10 =>
            (if v10 = 0 then none else some (i64.wrap ((Int.ofNat (List.length x.2.2.1)).tdiv v10))).bind fun v11 =>
             bif fg (x :: ts) && decide (ts.length <= 2147483640) then (idx x.2.1 1).bind fun vQ =>
               (idx x.2.1 2).bind fun qN =>
                (idx x.2.1 3).bind fun rp =>
                 (if 0 <= i64.wrap (((w : Nat) : Int) * v11) /\ i64.wrap (((w : Nat) : Int) * v11) <= i64.wrap (i64.wrap (((w : Nat) : Int) * v11) + v11) /\ i64.wrap (i64.wrap (((w : Nat) : Int) * v11) + v11) <= Int.ofNat (List.length x.2.2.1) then some (List.drop (i64.wrap (((w : Nat) : Int) * v11)).toNat (List.take (i64.wrap (i64.wrap (((w : Nat) : Int) * v11) + v11)).toNat x.2.2.1)) else none).bind fun zE =>
                  bif VJ n ((x.1, [1, vQ, qN, rp], zE, PUnit.unit) :: ts) then (idx x.2.1 0).bind fun zL =>
                    (if zL = 0 then none else some (i64.wrap ((Int.ofNat (List.length (pY n (x :: ts)).2.2.1)).tdiv zL))).bind fun xw =>
                     bif Dd n ((x.1, [1, vQ, qN, rp], zE, PUnit.unit) :: ts) != 0 then ay [B false]
                     else 
                      bif Int.ofNat (List.length (pY n ((x.1, [1, vQ, qN, rp], zE, PUnit.unit) :: ts)).2.2.1) != xw then ay [B false]
                      else (hlp lu eM) vN _ (zB (pY n (x :: ts)) (pY n ((x.1, [1, vQ, qN, rp], zE, ()) :: ts)) ((w : Nat) : Int) xw 0) (aW 0 (bt lu eM [18] (hlp lu eM) agV (bA prog 0 f4.results.toList ah)))
                  else none
             else none) = some (.ret [B true], []) := by
 have b := hx.fr.bnd
 have hxp := hx.fr.p
 have ba := b.a
 have bb := b.bcd
 have hA1 := hx.fr.a
 have Kb : fg (cK x Bq C D w :: ts) = true := by
  refine List.all_eq_true.2 fun t ht => ?_
  rcases List.mem_cons.1 ht with rfl | ht
  ·have e1 := (oK hx hw).len
   rw [Nat.one_mul] at e1
   have e2 : (cK x Bq C D w).2.1.length = 4 := rfl
   exact aE ⟨by omega, by omega⟩
  ·exact List.all_eq_true.1 hs t (by simp [ht])
 obtain ⟨d0, M, m1, m2, m3⟩ := hp Kb |>.imp_right cz.ex |> fun h => (⟨h.1, h.2.choose, h.2.choose_spec.1, h.2.choose_spec.2.1, h.2.choose_spec.2.2⟩ : Dd n (cK x Bq C D w :: ts) = 0 /\ ∃ M, (pY n (x :: ts)).2.2.1.length = A * M /\ A * M <= 65536 /\ (pY n (cK x Bq C D w :: ts)).2.2.1 = ((pY n (x :: ts)).2.2.1.drop (w * M)).take M)
 have ml := Hv m1 hw
 rw [← m3] at ml
 have i0 : idx x.2.1 0 = some (A : Int) := by rw [hx.fr.eq]; rfl
 have i1 : idx x.2.1 1 = some (Bq : Int) := by rw [hx.fr.eq]; rfl
 have i2 : idx x.2.1 2 = some (C : Int) := by rw [hx.fr.eq]; rfl
 have i3 : idx x.2.1 3 = some (D : Int) := by rw [hx.fr.eq]; rfl
 have hz : ∀ v : Int, (if (A : Int) = 0 then none else some v) = some v := fun v => if_neg (by omega)
 have hq : ∀ k : Nat, A * k <= 65536 -> k <= 65536 -> i64.wrap ((Int.ofNat (A * k)).tdiv (A : Int)) = (k : Int) := fun k _ hk => by
  rw [show Int.ofNat (A * k) = ((A * k : Nat) : Int) from rfl, ← Int.ofNat_tdiv, Nat.mul_div_cancel_left _ (by omega), aJ (by omega) (by omega)]
 have hS := hq (Bq * (C * D)) hxp bb
 have hM2 : M <= 65536 := Nat.le_trans (nC hA1) m2
 have hMq := hq M m2 hM2
 have wS : w * (Bq * (C * D)) + Bq * (C * D) <= A * (Bq * (C * D)) := by
  have := Nat.mul_le_mul_right (Bq * (C * D)) (show w + 1 <= A by omega)
  rw [Nat.add_mul, Nat.one_mul] at this
  exact this
 have wM : w * M + M <= A * M := by
  have := Nat.mul_le_mul_right M (show w + 1 <= A by omega)
  rw [Nat.add_mul, Nat.one_mul] at this
  exact this
 have e1 : i64.wrap ((w : Int) * ((Bq * (C * D) : Nat) : Int)) = ((w * (Bq * (C * D)) : Nat) : Int) := p5 (by omega)
 have e2 : i64.wrap (((w * (Bq * (C * D)) : Nat) : Int) + ((Bq * (C * D) : Nat) : Int)) = ((w * (Bq * (C * D)) + Bq * (C * D) : Nat) : Int) := by
  rw [show ((w * (Bq * (C * D)) : Nat) : Int) + ((Bq * (C * D) : Nat) : Int) = ((w * (Bq * (C * D)) + Bq * (C * D) : Nat) : Int) from (Int.natCast_add _ _).symm, aJ (by omega) (by omega)]
 have e3 : List.drop (w * (Bq * (C * D))) (List.take (w * (Bq * (C * D)) + Bq * (C * D)) x.2.2.1) = (x.2.2.1.drop (w * (Bq * (C * D)))).take (Bq * (C * D)) := by
  rw [List.drop_take, Nat.add_sub_cancel_left]
 rw [i0, aA, hz, aA, hx.len, hS, hs, aE (show ts.length <= 2147483640 by omega), Bool.and_self, ak, i1, aA, i2, aA, i3, aA, e1, e2,
  if_pos ⟨Int.natCast_nonneg _, by omega, by simp only [aT]; omega⟩, aA, Int.toNat_natCast, Int.toNat_natCast, e3]
 have PB : VJ n (cK x Bq C D w :: ts) = true := Hu hn Kb hl
 have key : ∀ (y : ca), y = cK x Bq C D w -> (bif VJ n (y :: ts) then (some (A : Int)).bind fun zL => (if zL = 0 then none else some (i64.wrap ((Int.ofNat (List.length (pY n (x :: ts)).2.2.1)).tdiv zL))).bind fun xw =>
   bif Dd n (y :: ts) != 0 then ay [B false] else bif Int.ofNat (List.length (pY n (y :: ts)).2.2.1) != xw then ay [B false]
   else hlp lu eM vN (aq × LHp) (zB (pY n (x :: ts)) (pY n (y :: ts)) (w : Int) xw 0) W9 else none) = ay [B true] := by
  rintro y rfl
  rw [PB, ak, aA, hz, aA, m1, hMq, d0, ml, show ((0 : Int) != 0) = false from rfl, ax, show (Int.ofNat M != (M : Int)) = false from bne_self_eq_false _, ax, ag4]
  exact ac5 hM2 (by omega) ml (by omega) m3
 exact key _ rfl
theorem Pw {n : dL} {ts : List ca} {which : Int} (hn : n8 n) (hs : fg ts = true) (hl : ts.length <= 2000000) (h1 : -9223372036854775808 <= which) (h2 : which < 9223372036854775808) :
  aC lu f4 8 [(18, [2, 7, 12, 14, 15])] [.d (Y2) n, .d (.slice (Y0)) ts, I which] [] ah = some (.ret [B true], []) := by
 cases ts with
 | nil => exact VK n which
 | cons x ts =>
  simp only [List.length_cons] at hl
  rw [acQ, aE (show (x :: ts).length <= 2147483648 by simp only [List.length_cons]; omega), ak]
  cases c1 : zi (x :: ts) with
  | false => rfl
  | true =>
   rw [Bool.not_true, ax]
   cases c2 : Int.ofNat (List.length x.2.1) != 4 with
   | true => rfl
   | false =>
    rw [ax, Hu hn hs (by omega), ak]
    cases c3 : Dd n (x :: ts) != 0 with
    | true => rfl
    | false =>
     obtain ⟨A, Bq, C, D, hx, hp⟩ := Hw hn hs (by omega) (l5 c3)
     have hA1 := hx.fr.a
     have ba := hx.fr.bnd.a
     have i0 : idx x.2.1 0 = some (A : Int) := by rw [hx.fr.eq]; rfl
     have hz : ∀ v : Int, (if (A : Int) = 0 then none else some v) = some v := fun v => if_neg (by omega)
     have go := fun (w : Nat) (hw : w < A) => ac6 hn hs (by omega) hx hw (hp w hw)
     rw [ax, i0, aA, de (show ¬ ((A : Int) < 1) by omega), ax]
     simp only [i0] at go
     cases c4 : decide (which < 0) with
     | true =>
      have c4 := aZ c4
      obtain ⟨k, hk⟩ := Int.eq_ofNat_of_zero_le (show 0 <= 0 - (which + 1) by omega)
      rw [ak, aA, hz, aA, aJ (n := which + 1) (by omega) (by omega), aJ (by omega) (by omega), hk, ← Int.ofNat_tmod]
      exact go (k % A) (Nat.mod_lt _ (by omega))
     | false =>
      have c4 := rq c4
      obtain ⟨k, rfl⟩ := Int.eq_ofNat_of_zero_le (show 0 <= which by omega)
      rw [ax, aA, hz, aA, ← Int.ofNat_tmod]
      exact go (k % A) (Nat.mod_lt _ (by omega))
end
end Go.Proofs.XRT
namespace Go.Vm
open Go.ChangeShapes Go.WideShapes Go.RowKit
def p9 (N : Nat) : (t : Ty) -> t.den -> Prop
 | .int _, _ => True
 | .bool, _ => True
 | .str, s => s.length <= N
 | .flt _, _ => True
 | .slice e, xs => xs.length <= N /\ ∀ x ∈ xs, p9 N e x
 | .unit, _ => True
 | .pair a b, x => p9 N a x.1 /\ p9 N b x.2
 | .arr _ e, xs => ∀ x ∈ xs, p9 N e x
structure VW {H : Type} (m : DataW H -> Nat) : Prop where
 str : ∀ b : List UInt8, b.length <= m (.lit (.string b))
 slen : ∀ es sp, es.length <= m (.slice es sp)
 selt : ∀ es sp (e : DataW H), e ∈ es -> m e <= m (.slice es sp)
 part : ∀ es (e : DataW H), e ∈ es -> m e <= m (.agg es)
section
variable {H : Type} {enc : TypeId × Value -> H} {P : Program} {w : World} {sp : Nat -> Bool} {held : Bool} {m : DataW H -> Nat} {N : Nat}
mutual
theorem open_tyB (hm : VW m) : ∀ (τ : Ty) (t : TypeId) (fuel : Nat) (cs : List Value) (x : DataW H × List MemPlace), readTy P τ t = true -> DataW.trod enc P w 0 sp held fuel t cs = some x -> m x.1 <= N ->
    ∃ y : τ.den, aM w (fun b => b < w.heap.size) τ cs y /\ WfD τ y /\ p9 N τ y
  | .int k, t, fuel, cs, x, hr, h, _ => by
    simp only [readTy] at hr
    split at hr
    · rename_i k' hu
      obtain rfl := aZ hr
      obtain ⟨n, rfl, _, hw⟩ := DataW.trod_int hu h
      exact ⟨n, rfl, hw, trivial⟩
    · cases hr
  | .bool, t, fuel, cs, x, hr, h, _ => by
    simp only [readTy] at hr
    split at hr
    · rename_i hu
      obtain ⟨n, rfl, _⟩ := DataW.trod_bool hu h
      exact ⟨n, rfl, trivial, trivial⟩
    · cases hr
  | .str, t, fuel, cs, x, hr, h, hN => by
    simp only [readTy] at hr
    split at hr
    · rename_i hu
      obtain ⟨s, rfl, rfl, hw⟩ := DataW.trod_string hu h
      refine ⟨s.data.toList, by simp [aM], by simpa [WfD] using hw, Nat.le_trans (hm.str _) hN⟩
    · cases hr
  | .flt _, _, _, _, _, hr, _, _ => by simp [readTy] at hr
  | .unit, _, _, _, _, hr, _, _ => by simp [readTy] at hr
  | .arr _ _, _, _, _, _, hr, _, _ => by simp [readTy] at hr
  | .slice e, t, fuel, cs, x, hr, h, hN => by
    simp only [readTy] at hr
    split at hr
    · rename_i u hu
      simp only [bg] at hr
      obtain ⟨⟨h1, h2⟩, h3⟩ := hr
      have h1 := bo h1
      have h2 := Nat.le_of_ble_eq_true h2
      rcases DataW.trod_slice hu h with ⟨rfl, _⟩ | ⟨a, len, cap, elems, rest, n, _, rfl, hx9, _, hlc, HC, hel, helem, _, _⟩
      · exact ⟨[], ⟨none, 0, rfl, Nat.le_refl _, by simp, fun _ => rfl, rfl⟩, by simp [WfD], by simp [p9]⟩
      · subst hx9
        have hall : ∀ i, 0 <= i -> i < 0 + len -> ∃ c z, w.cells? 0 (a.add (i * P.cellsOf u)) (P.cellsOf u) = some c /\ aM w (fun b => b < w.heap.size) e c z /\ (WfD e z /\ p9 N e z) := by
          intro i _ hi
          have := helem i (by omega)
          rw [List.getElem?_eq_getElem (by omega)] at this
          obtain ⟨c, hc, hx⟩ := Option.bind_eq_some_iff.1 this
          obtain ⟨z, h4, h5⟩ := open_tyB hm e u n c _ h3 hx (Nat.le_trans (hm.selt _ _ _ (List.mem_map.2 ⟨_, List.getElem_mem _, rfl⟩)) hN)
          exact ⟨c, z, hc, h4, h5⟩
        obtain ⟨c, zs, hz, hrep, hg, Ka, hcell⟩ := Fs len 0 hall
        have hlen : zs.length <= N := by
          have := hm.slen (elems.map (·.1)) (rest.map (·.1))
          rw [List.length_map] at this
          have hN' : m (.slice (elems.map (·.1)) (rest.map (·.1))) <= N := hN
          omega
        refine ⟨zs, ⟨some a, cap, by rw [hz], by omega, HC, fun h => (by cases h), ?_⟩, ⟨by rw [hz]; omega, fun z hz => (hg z hz).1⟩, ⟨hlen, fun z hz => (hg z hz).2⟩⟩
        cases len with
        | zero => exact .inl (List.eq_nil_of_length_eq_zero hz)
        | succ len =>
          right
          have hc0 := hcell 0 0 (by omega) (by omega)
          rw [List.getElem?_eq_getElem (by rw [Ka, h1]; exact Nat.lt_of_lt_of_le (by omega) (Nat.mul_le_mul (show 1 <= len + 1 by omega) h2))] at hc0
          have hspot : a.spot = none := by simpa [Addr.add] using World.cell?_spot hc0
          obtain ⟨b, off, spot⟩ := a
          obtain rfl : spot = none := hspot
          have hb := Qz hc0
          simp only [add_plain] at hb
          refine ⟨rfl, hb, c, fun j v hj => ?_, hrep⟩
          have PV := (List.getElem?_eq_some_iff.1 hj).1
          rw [Ka] at PV
          have hm := Nat.div_add_mod j (P.cellsOf u)
          have := hcell (j / P.cellsOf u) (j % P.cellsOf u) (Nat.div_lt_of_lt_mul (by rw [Nat.mul_comm]; exact PV)) (Nat.mod_lt _ (by omega))
          rw [add_plain, add_plain, Nat.zero_add, Nat.mul_comm, hm, Nat.add_assoc, hm] at this
          exact this.trans hj
    · cases hr
  | .pair a b, t, fuel, cs, x, hr, h, hN => by
    simp only [readTy] at hr
    split at hr
    · rename_i fs hu
      simp only [bg] at hr
      obtain ⟨h1, hr⟩ := hr
      have h1 := bo h1
      obtain ⟨xs, n, _, rfl, hl, hxl, hf⟩ := DataW.trod_struct hu h
      split at hr
      · rename_i f r hfs
        simp only [bg] at hr
        obtain ⟨⟨⟨g1, g2⟩, g3⟩, g4⟩ := hr
        have g1 := bo g1
        have g2 := bo g2
        have oS : ∀ (i : Nat) (f' : Field), (f :: r)[i]? = some f' -> DataW.trod enc P w 0 sp held n f'.type ((cs.drop f'.offset).take (P.cellsOf f'.type)) = xs[i]? := by
          intro i f' hi
          exact hf i f' (by rw [← hfs] at hi; simpa using hi)
        have hlen : xs.length = (f :: r).length := by rw [hxl, ← hfs]; simp
        have hx0 := oS 0 f rfl
        rw [List.getElem?_eq_getElem (by rw [hlen]; simp)] at hx0
        rw [g1, g2, List.drop_zero] at hx0
        have hb : ∀ z ∈ xs, m z.1 <= N := fun z hz => Nat.le_trans (hm.part _ _ (List.mem_map.2 ⟨z, hz, rfl⟩)) hN
        obtain ⟨y1, k1, k2, k5⟩ := open_tyB hm a f.type n _ _ g3 hx0 (hb _ (List.getElem_mem _))
        obtain ⟨y2, k3, k4, k6⟩ := open_fsB hm b a.size r n cs (by rw [hl, h1]) g4 (fun i f' hi => ⟨xs[i + 1]'(by rw [hlen]; have := (List.getElem?_eq_some_iff.1 hi).1; simp; omega), by rw [oS (i + 1) f' hi, List.getElem?_eq_getElem], hb _ (List.getElem_mem _)⟩)
        exact ⟨(y1, y2), ⟨_, _, (List.take_append_drop a.size cs).symm, k1, k3⟩, ⟨k2, k4⟩, k5, k6⟩
      · cases hr
    · cases hr
theorem open_fsB (hm : VW m) : ∀ (τ : Ty) (off : Nat) (fs : List Field) (n : Nat) (cs : List Value), cs.length = off + τ.size -> readFs P τ off fs = true -> (∀ (i : Nat) (f : Field), fs[i]? = some f -> ∃ x, DataW.trod enc P w 0 sp held n f.type ((cs.drop f.offset).take (P.cellsOf f.type)) = some x /\ m x.1 <= N) ->
    ∃ y : τ.den, aM w (fun b => b < w.heap.size) τ (cs.drop off) y /\ WfD τ y /\ p9 N τ y
  | .unit, off, fs, n, cs, hl, _, _ => ⟨(), List.drop_eq_nil_of_le (by rw [hl]; exact Nat.le_refl _), trivial, trivial⟩
  | .pair a b, off, fs, n, cs, hl, hr, h => by
    simp only [readFs] at hr
    split at hr
    · rename_i f r
      simp only [bg] at hr
      obtain ⟨⟨⟨g1, g2⟩, g3⟩, g4⟩ := hr
      have g1 := bo g1
      have g2 := bo g2
      obtain ⟨x, hx, hxN⟩ := h 0 f rfl
      rw [g1, g2] at hx
      obtain ⟨y1, k1, k2, k5⟩ := open_tyB hm a f.type n _ _ g3 hx hxN
      obtain ⟨y2, k3, k4, k6⟩ := open_fsB hm b (off + a.size) r n cs (by rw [hl]; simp [Ty.size, Nat.add_assoc]) g4 (fun i f' hi => h (i + 1) f' hi)
      refine ⟨(y1, y2), ⟨_, _, (List.take_append_drop a.size (cs.drop off)).symm, k1, ?_⟩, ⟨k2, k4⟩, k5, k6⟩
      rw [List.drop_drop]
      exact k3
    · cases hr
  | .int _, _, _, _, _, _, hr, _ => by simp [readFs] at hr
  | .bool, _, _, _, _, _, hr, _ => by simp [readFs] at hr
  | .str, _, _, _, _, _, hr, _ => by simp [readFs] at hr
  | .flt _, _, _, _, _, _, hr, _ => by simp [readFs] at hr
  | .slice _, _, _, _, _, _, hr, _ => by simp [readFs] at hr
  | .arr _ _, _, _, _, _, _, hr, _ => by simp [readFs] at hr
end
theorem xo (hm : VW m) {τ : Ty} {t : TypeId} {v : Value} {d : DataW H} {p : List MemPlace} (hr : readTy P τ t = true) (hagg : bh v = τ.isAgg) (h : DataW.Trod enc P w 0 sp held t v d p) (hN : m d <= N) :
  ∃ y : τ.den, aM w (fun b => b < w.heap.size) τ v.cells.toList y /\ WfD τ y /\ p9 N τ y /\ bC w (fun b => b < w.heap.size) (fun _ => .none) (az []) (.d τ y) v := by
 obtain ⟨fuel, h⟩ := h
 obtain ⟨y, h1, h2, h3⟩ := open_tyB hm τ t fuel _ _ hr h hN
 exact ⟨y, h1, h2, h3, h1, hagg⟩
end
end Go.Vm
set_option maxRecDepth 100000
set_option maxHeartbeats 4000000
namespace Go.Proofs.XRT
open Go.Vm Go Tryz IntKind
noncomputable section
theorem VX {n : dL} (h : p9 1048576 (Y2) n) : n8 n := by
 obtain ⟨op, nm, ins, out, aa, u⟩ := n
 obtain ⟨_, _, hi, _, ha, _⟩ := h
 have ha1 : aa.length <= 1048576 := ha.1
 have ha2 : ∀ a ∈ aa, p9 1048576 (Y1) a := ha.2
 refine ⟨hi.1, ?_, ?_, fun a h => ?_⟩
 ·show aD aa = true
  unfold aD
  rw [aE (show aa.length <= 2147483647 by omega), Bool.true_and]
  refine List.all_eq_true.2 fun a h => ?_
  obtain ⟨a1, _, _, _, a5, _, a7, _⟩ := ha2 a h
  have a1 : List.length a.1 <= 1048576 := a1
  have a5 : List.length a.2.2.2.2.1 <= 1048576 := a5
  have a7 : List.length a.2.2.2.2.2.2.1 <= 1048576 := a7.1
  rw [aE (show List.length a.1 <= 2147483647 by omega), aE (show List.length a.2.2.2.2.1 <= 2147483647 by omega), aE (show List.length a.2.2.2.2.2.2.1 <= 2147483648 by omega)]
  rfl
 ·show mO aa = true
  refine List.all_eq_true.2 fun a h => ?_
  obtain ⟨_, _, _, _, _, a6, _⟩ := ha2 a h
  have b1 : List.length a.2.2.2.2.2.1.2.1 <= 1048576 := a6.2.1.1
  have b2 : List.length a.2.2.2.2.2.1.2.2.1 <= 1048576 := a6.2.2.1.1
  have hm : maxLen = 9223372036854775807 := by decide
  exact aE ⟨by omega, by omega⟩
 ·obtain ⟨_, _, _, _, _, _, a7, _⟩ := ha2 a h
  exact a7.1
theorem Hy {ts : List ca} (h : p9 1048576 (.slice (Y0)) ts) : fg ts = true /\ ts.length <= 1048576 := by
 refine ⟨List.all_eq_true.2 fun t ht => ?_, h.1⟩
 obtain ⟨_, h2, h3, _⟩ := h.2 t ht
 have b1 : List.length t.2.1 <= 1048576 := h2.1
 have b2 : List.length t.2.2.1 <= 1048576 := h3.1
 exact aE ⟨by omega, by omega⟩
theorem cap_call (n : dL) (hn : p9 1048576 (Y2) n) (ts : List ca) (ht : p9 1048576 (.slice (Y0)) ts) (which : Int) (hw : (Lit.int .i64 which).wf = true) : FnH prog (Env.gam e0) 4 [.d (Y2) n, .d (.slice (Y0)) ts, I which] (az []) (fun ae h1 => ae = .ret [B true] /\ h1 = az []) := by
 have hb : -9223372036854775808 <= which /\ which < 9223372036854775808 := by
  simp [Lit.wf, IntKind.min, IntKind.max, IntKind.signed, IntKind.bits] at hw
  omega
 exact Im JO bX func4 call4 (by decide +kernel) rfl (Pw (VX hn) (Hy ht).1 (by have := (Hy ht).2; omega) hb.1 hb.2)
end
end Go.Proofs.XRT
