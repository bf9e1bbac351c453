/- Views, moves over data: told; the law's run. -/
import Derived.Test.YtnkhoojomojbpaaGreatDoorK41
import Derived.Test.YtnkhoojomojbpaaGreatDoorK38
import Derived.Test.YtnkhoojomojbpaaGreatDoorK40
import Derived.Test.YtnkhoojomojbpaaGreatDoorK36
set_option maxRecDepth 100000
set_option maxHeartbeats 4000000
namespace Go.Proofs.XRT
open Go.Vm Go Tryz IntKind
noncomputable section
def mh (s : Int) : Bool := bif decide (s < 0) then true else decide (s > 65536)
theorem abW (s : Int) : aC g6 f129 4 [] [I s] [] ah = bif decide (s < 0) then az [B true] else az [B (decide (s > 65536))] := by kernel_rfl
def abX : List AV -> LHp -> Tq
 | [.d zI s], [] => .leaf (.ret [B (mh s)]) []
 | _, _ => .no
theorem Vf (s : Int) : aC g6 f129 4 [] [I s] [] ah = some (.ret [B (mh s)], []) := by
 rw [abW]
 unfold mh
 cases decide (s < 0) <;> rfl
theorem Vg : bg 129 (ao abX) := by
 have h1 : bg 129 (au g6 f129 4 []) := FH
 refine aO fun args hs ae aH h' => ?_
 unfold abX at h'
 split at h'
 ·exact h1.okC ((Vf _).trans h')
 ·cases h'
noncomputable def WZ : Code := bd f156
noncomputable def EF : Code := cL (cL (cR (cL (cR WZ))))
noncomputable def jK : Cfg := ⟨19, 5, 0, [(2, [0, 1, 7, 8])], true⟩
noncomputable def qX : Env := g9.add 129 (ao abX)
theorem Jp : qX.Good := xW.add Vg
def tY (xs : af) (i : Int) : LSt := { fr := aw 5 [(0, .d (.slice aa) xs), (1, .fn (.func 129) [] []), (7, I (Int.ofNat xs.length)), (8, I i)], hp := [], nx := 0 }
noncomputable def EG : AEx -> LSt -> Option (aq × LHp) := (aQ 0 (aX qX jK [2] (hlp qX jK) (cR (cR WZ)) (aZ prog 0 f156.results.toList ah)))
theorem abY (xs : af) : aC qX f156 5 [(2, [0, 1, 7, 8])] [.d (.slice aa) xs, .fn (.func 129) [] []] [] ah = (hlp qX jK) EF _ (tY xs 0) EG := (bq [2] jK rfl).trans (by obtain ⟨hl, h⟩ := bc qX jK; rw [h]; kernel_rfl)
theorem W0 (xs : af) (i : Int) (n : Nat) : lp qX jK EF (n + 1) (tY xs i) EG = bif decide (i < Int.ofNat xs.length) then (idx xs i).bind fun v1 => bif mh v1 then az [I i] else lp qX jK EF n (tY xs (i64.wrap (i + 1))) EG else az [I (-1)] := by kernel_rfl
def ixN (a : Nat) (x : Int) : Nx Nat (aq × LHp) := bif mh x then .stop (some (.ret [I (a : Int)], [])) else .go (a + 1)
def On : List Int -> Nat -> Int
 | [], _ => -1
 | x :: r, a => bif mh x then (a : Int) else On r (a + 1)
theorem GY : ∀ (xs : af) (a : Nat), cg ixN (fun _ => some (.ret [I (-1)], [])) xs a = some (.ret [I (On xs a)], [])
 | [], _ => rfl
 | x :: r, a => by
  have e : ixN a x = bif mh x then .stop (some (.ret [I (a : Int)], [])) else .go (a + 1) := rfl
  rw [cg, On, e]
  cases mh x with
  | true => rfl
  | false => exact GY r (a + 1)
theorem GZ : ∀ (xs : af) (a : Nat), decide (On xs a >= 0) = xs.any mh
 | [], _ => rfl
 | x :: r, a => by
  rw [On, List.any_cons]
  cases mh x with
  | true => exact aD (Int.natCast_nonneg a)
  | false => exact GZ r (a + 1)
theorem abZ {xs : af} (hl : xs.length <= 2147483648) : lp qX jK EF fu (tY xs 0) EG = some (.ret [I (On xs 0)], []) := by
 have hm : maxLen = 9223372036854775807 := by decide
 refine (cq (xs := xs) (T := fun m s => lp qX jK EF m s EG) (st := fun (i : Int) (_ : Nat) => tY xs i) (f := ixN) (fin := fun _ => some (.ret [I (-1)], [])) (fun (i : Nat) (a : Nat) => a = i) (by omega) ?_ ?_ (a := 0) rfl).trans (GY xs 0)
 ·intro i a x m hI hi gx gi hw hd
  subst hI
  have e : ixN a x = bif mh x then .stop (some (.ret [I (a : Int)], [])) else .go (a + 1) := rfl
  have hs := W0 xs (a : Int) m
  rw [hd, ai, gi, aB, hw] at hs
  cases h : mh x with
  | true => rw [h, ai] at hs e; exact .inr ⟨_, e, hs⟩
  | false => rw [h, ax] at hs e; exact .inl ⟨_, e, rfl, hs⟩
 ·intro a m hI hd
  have hs := W0 xs (xs.length : Int) m
  rw [hd, ax] at hs
  exact hs
theorem ag0 (xs : af) : hlp qX jK EF (aq × LHp) (tY xs 0) EG = lp qX jK EF fu (tY xs 0) EG := rfl
def ab0 : List AV -> LHp -> Tq
 | [.d zS xs, .fn (.func 129) [] []], [] => .br (decide (xs.length <= 2147483648)) (.leaf (.ret [I (On xs 0)]) []) .no
 | _, _ => .no
theorem Vh : bg 156 (ao ab0) := by
 have h1 := bD (d := 5) (l := [(2, [0, 1, 7, 8])]) Jp func156 call156
 refine aO fun args hs ae aH h' => ?_
 unfold ab0 at h'
 split at h'
 ·rename_i xs
  obtain ⟨hb, h2⟩ := Tq.br_no h'
  exact h1.okC (((abY xs).trans ((ag0 xs).trans (abZ (aU hb)))).trans h2)
 ·cases h'
noncomputable def ctE : FnE := au (g10.add 156 (ao ab0)) f108 4 []
theorem ab1 : bg 108 ctE := eM (te.add Vh) bO func108 call108 (by decide +kernel) rfl
noncomputable def gVf : Env := (ry.add 108 ctE).add 60 (ao Od)
theorem Oo : gVf.Good := (dB.add ab1).add yO
abbrev Vw : Type := (Y0).den
abbrev b9 : Type := (Y0).den
theorem ab2 (off : Int) (ds ss : af) : aC gVf f75 6 [] [.d (Y0) (off, ds, ss, ())] [] ah = bif ay ds == 0 then bif Int.ofNat ss.length == Int.ofNat ds.length then bif decide (off >= 0) then bif decide (off < 65536) then bif decide (ss.length <= 2147483648) then az [B !decide (On ss 0 >= 0)] else none else az [B false] else az [B false] else az [B false] else az [B false] := by kernel_rfl
noncomputable def ag1 : Env := (g80.add 86 (ao abV)).add 107 (ao uV)
theorem Jq : ag1.Good := (oO.add Ve).add jY
theorem ab3 (ds : af) : aC ag1 f78 5 [] [.d (.slice aa) ds] [] ah = bif decide (ds.length <= 9223372036854775807) then bif ay ds != 0 then bif ay ds != 0 then az [(I 0).pr (AV.nils.pr (AV.nils.pr (AV.d Ty.unit PUnit.unit))), I (ay ds)] else bif decide (ds.length <= 2147483648) then some (aq.ret [(I 0).pr ((AV.os 0 0).pr (AV.nils.pr (AV.d Ty.unit PUnit.unit))), I 0], [(0, aj.arr 3 (aa) 0 false ds)]) else none else bif decide (ds.length <= 2147483648) then some (aq.ret [(I 0).pr ((AV.os 0 0).pr ((AV.os 1 0).pr (AV.d Ty.unit PUnit.unit))), I 0], [(0, aj.arr 3 (aa) 0 false ds), (1, aj.arr 3 (aa) 0 false (EE ds))]) else none else none := by kernel_rfl
def gC (v : Vw) : Bool := bif ay v.2.1 == 0 then (bif Int.ofNat (List.length v.2.2.1) == Int.ofNat (List.length v.2.1) then (bif decide (v.1 >= 0) then (bif decide (v.1 < 65536) then !decide (On v.2.2.1 0 >= 0) else false) else false) else false) else false
theorem pc {off : Int} {ds ss : af} {u : Unit} (h : gC (off, ds, ss, u) = true) : ay ds = 0 /\ ss.length = ds.length /\ 0 <= off /\ off < 65536 /\ ∀ x ∈ ss, mh x = false := by
 unfold gC at h
 cases h1 : ay ds == 0 with
 | false => rw [show (ay (off, ds, ss, u).2.1 == 0) = (ay ds == 0) from rfl, h1] at h; cases h
 | true =>
  rw [show (ay (off, ds, ss, u).2.1 == 0) = (ay ds == 0) from rfl, h1, ai] at h
  have h : (bif Int.ofNat (List.length ss) == Int.ofNat (List.length ds) then (bif decide (off >= 0) then (bif decide (off < 65536) then !decide (On ss 0 >= 0) else false) else false) else false) = true := h
  cases h2 : Int.ofNat (List.length ss) == Int.ofNat (List.length ds) with
  | false => rw [h2] at h; cases h
  | true =>
   rw [h2, ai] at h
   cases h3 : decide (off >= 0) with
   | false => rw [h3] at h; cases h
   | true =>
    rw [h3, ai] at h
    cases h4 : decide (off < 65536) with
    | false => rw [h4] at h; cases h
    | true =>
     rw [h4, ai, GZ] at h
     have e2 := eq_of_beq h2
     simp only [aK] at e2
     refine ⟨eq_of_beq h1, by omega, aU h3, aU h4, fun x hx => ?_⟩
     cases hf : mh x with
     | false => rfl
     | true =>
      have : ss.any mh = true := List.any_eq_true.2 ⟨x, hx, hf⟩
      rw [this] at h
      cases h
def mR (v : Vw) : Bool := decide (List.length v.2.1 <= 2147483648 /\ List.length v.2.2.1 <= 2147483648)
def vfF : List AV -> LHp -> Tq
 | [.d Y0 v], [] => .br (mR v) (.leaf (.ret [B (gC v)]) []) .no
 | _, _ => .no
theorem yS : bg 75 (ao vfF) := by
 have h1 := bD (d := 6) (l := []) Oo func75 call75
 refine aO fun args hs ae aH h' => ?_
 unfold vfF at h'
 split at h'
 ·rename_i v
  obtain ⟨off, ds, ss, u⟩ := v
  obtain ⟨hb, h2⟩ := Tq.br_no h'
  have hs : ss.length <= 2147483648 := (aU hb).2
  refine h1.okC (Eq.trans ?_ h2)
  refine (ab2 off ds ss).trans ?_
  rw [aD hs, ai]
  show _ = (some (.ret [B (gC (off, ds, ss, u))], []) : Option (aq × LHp))
  unfold gC
  show _ = az [B (bif ay ds == 0 then (bif Int.ofNat (List.length ss) == Int.ofNat (List.length ds) then (bif decide (off >= 0) then (bif decide (off < 65536) then !decide (On ss 0 >= 0) else false) else false) else false) else false)]
  cases ay ds == 0 with
  | false => rfl
  | true =>
   cases Int.ofNat (List.length ss) == Int.ofNat (List.length ds) with
   | false => rfl
   | true =>
    cases decide (off >= 0) with
    | false => rfl
    | true => cases decide (off < 65536) <;> rfl
 ·cases h'
def uy (ds : af) : Vw := bif ay ds != 0 then (0, [], [], ()) else (0, ds, EE ds, ())
def whF : List AV -> LHp -> Tq
 | [.d zS ds], [] => .br (decide (ds.length <= 2147483648)) (.leaf (.ret [.d (Y0) (uy ds), I (ay ds)]) []) .no
 | _, _ => .no
theorem ab4 : bg 78 (ao whF) := by
 have h1 := bD (d := 5) (l := []) Jq func78 call78
 refine aO fun args hs ae aH h' => ?_
 unfold whF at h'
 split at h'
 ·rename_i ds
  obtain ⟨hb, h2⟩ := Tq.br_no h'
  have hl : ds.length <= 2147483648 := aU hb
  refine h1.okBQ [(Y0), aa] (Eq.trans ?_ h2)
  rw [ab3 ds, aD (show ds.length <= 9223372036854775807 by omega), aD hl, ai]
  show _ = (some (.ret [.d (Y0) (uy ds), I (ay ds)], []) : Option (aq × LHp))
  unfold uy
  cases hc : ay ds != 0 with
  | true => rfl
  | false =>
   have h0 : ay ds = 0 := by simpa using hc
   rw [h0]
   rfl
 ·cases h'
noncomputable def ag2 : Env := We.add 107 (ao uV)
theorem Jr : ag2.Good := l5.add jY
noncomputable def ab5 : FnE := au ag2 f133 4 []
theorem G0 : bg 133 ab5 := bD Jr func133 call133
noncomputable def Vi : FnE := au (g80.add 78 (ao whF)) f42 4 []
theorem yT : bg 42 Vi := eM (oO.add ab4) bO func42 call42 (by decide +kernel) rfl
noncomputable def Oq : Code := bd f79
noncomputable def Vj : Code := cL (cR (cL (cR (cR (cR Oq)))))
noncomputable def jL : Cfg := ⟨26, 5, 0, [(5, [0, 1, 2, 3, 4, 5, 6, 14, 15, 16, 17, 18, 19, 20, 21, 22, 23, 24])], true⟩
noncomputable def Ot : Code := bd f186
noncomputable def kM : Code := cL (cL (cR (cR Ot)))
noncomputable def uY : Code := cL (cL (cL (cR (cR (cL (cL (cL (cR (cR Ot)))))))))
noncomputable def ab6 : Code := cR (cR (cR (cL (cL (cL (cR (cR Ot)))))))
noncomputable def bw : Cfg := ⟨63, 6, 7, [(2, [0, 1, 3, 4]), (4, [0, 1, 3, 4, 5])], true⟩
noncomputable def G1 (F : FnE) : Env := (Wd.add 186 F).add 75 (ao vfF)
theorem Ou : (G1 qM).Good := (jz.add FU).add yS
theorem ab7 (F : FnE) (off : Int) (ds ss l : af) : aC (G1 F) f79 5 [(5, [0, 1, 2, 3, 4, 5, 6, 14, 15, 16, 17, 18, 19, 20, 21, 22, 23, 24])] [.d (Y0) (off, ds, ss, ()), .d (.slice aa) l] [] ah = bif mR (off, ds, ss, PUnit.unit) then bif !gC (off, ds, ss, PUnit.unit) then az [AV.nils, I 1] else (rfp (G1 F) jL) Vj _ { fr := aw 5 [(0, AV.d Y0 (off, ds, ss, PUnit.unit)), (1, AV.d (aa).slice l), (2, AV.op 0 [] 0), (3, AV.op 1 [] 0), (4, AV.op 2 [] 0), (5, AV.op 3 [] 0), (6, AV.op 4 [] 0), (8, AV.d Y0 (off, ds, ss, PUnit.unit)), (9, B (gC (off, ds, ss, PUnit.unit))), (10, B false), (11, AV.d Y0 (off, ds, ss, PUnit.unit)), (12, AV.fn (Fn.func 186) [] [AV.op 5 [] 0])], hp := [(5, aj.box (AV.d Y0 (off, ds, ss, PUnit.unit))), (4, aj.box AV.nils), (3, aj.box (I 0)), (2, aj.box AV.nils), (1, aj.box (AV.d (aa).slice l)), (0, aj.box (AV.d Y0 (off, ds, ss, PUnit.unit)))], nx := 6 } (aQ 0 (SL (G1 F) jL (rfp (G1 F) jL) (cR (cR (cR (cR Oq)))) (aZ prog 0 f79.results.toList ah))) else none := (Mp jL rfl).trans (by obtain ⟨hl, h⟩ := Mq (G1 F) jL; rw [h]; kernel_rfl)
def tZ (off : Int) (ds ss l : af) : Tr := aw 5 [(0, .d (Y0) (off, ds, ss, ())), (1, .d (.slice aa) l), (2, .op 0 [] 0), (3, .op 1 [] 0), (4, .op 2 [] 0), (5, .op 3 [] 0), (6, .op 4 [] 0), (8, .d (Y0) (off, ds, ss, ())), (9, B true), (10, B false), (11, .d (Y0) (off, ds, ss, ())), (12, .fn (.func 186) [] [.op 5 [] 0])]
def ab8 (off : Int) (ds ss l : af) : LHp := [(5, .box (.d (Y0) (off, ds, ss, ()))), (4, .box .nils), (3, .box (I 0)), (2, .box .nils), (1, .box (.d (.slice aa) l)), (0, .box (.d (Y0) (off, ds, ss, ())))]
def ag3 (cf : Cfg) : Code -> vd
 | .rangeFunc _ ps a b => ⟨cf.depth, ps, a, b, cf.n⟩
 | _ => ⟨0, #[], .skip, .skip, 0⟩
noncomputable def hM : vd := ag3 jL Vj
def Ov (off : Int) (ds ss l : af) : List (Nat × AV) := [(0, .d (Y0) (off, ds, ss, ())), (1, .d (.slice aa) l), (2, .op 5 [] 0), (3, .op 4 [] 0), (4, .op 3 [] 0), (5, .op 2 [] 0), (6, .op 1 [] 0)]
def bxV (off : Int) (ds ss : af) : aj := .box (.d (Y0) (off, ds, ss, ()))
noncomputable def ua (off : Int) (ds ss l : af) (o : AV) (oh : LHp) : LHp := [(0, bxV off ds ss), (1, .box o)] ++ oh ++ [(2, .box (I 0)), (3, .box .nils), (4, .box (.d (.slice aa) l)), (5, bxV off ds ss), (6, .rc (.loop hM (Ov off ds ss l) .ready))]
noncomputable def Vk (off : Int) (ds ss l : af) : List (Nat × AV) := j9 ⟨tZ off ds ss l, [], 0⟩ (jv jL hM.assign)
noncomputable def lv (off : Int) (ds ss l : af) : LHp := (6, .rc (.loop hM (Vk off ds ss l) .ready)) :: ab8 off ds ss l
theorem ab9 (F : FnE) (off : Int) (ds ss l : af) (k : AEx -> LSt -> Option (aq × LHp)) : exC (G1 F) jL Vj ⟨tZ off ds ss l, ab8 off ds ss l, 6⟩ k =
  F.run [.ref 6, .op 0 [] 0] (ua off ds ss l .nils []) (wa [5, 4, 3, 2, 1, 0, 6] (lv off ds ss l) 7 (rfK (tZ off ds ss l) (lv off ds ss l) 6 k) (rfP (tZ off ds ss l) (lv off ds ss l) 6 k)) := by kernel_rfl
noncomputable def RKr (F : FnE) : AEx -> LSt -> Option (aq × LHp) := aQ 0 (SL (G1 F) jL (rfp (G1 F) jL) (cR (cR (cR (cR Oq)))) (aZ prog 0 f79.results.toList ah))
theorem acb (off : Int) (ds ss l : af) : aC iD f186 6 [(2, [0, 1, 3, 4]), (4, [0, 1, 3, 4, 5])] [.ref 6, .op 0 [] 0] (ua off ds ss l .nils []) ah = (if 0 <= Int.ofNat ds.length /\ Int.ofNat ds.length <= 4294967296 then some (List.replicate (Int.ofNat ds.length).toNat 0) else none).bind fun v0 => (hlp iD bw) kM _ { fr := aw 6 [(0, AV.ref 6), (1, AV.op 0 [] 0), (3, AV.os 7 0), (4, I off)], hp := [(0, aj.box (AV.d Y0 (off, ds, ss, PUnit.unit))), (1, aj.box AV.nils), (2, aj.box (I 0)), (3, aj.box AV.nils), (4, aj.box (AV.d (aa).slice l)), (5, aj.box (AV.d Y0 (off, ds, ss, PUnit.unit))), (6, aj.rc (dx.loop hM [(0, AV.d Y0 (off, ds, ss, PUnit.unit)), (1, AV.d (aa).slice l), (2, AV.op 5 [] 0), (3, AV.op 4 [] 0), (4, AV.op 3 [] 0), (5, AV.op 2 [] 0), (6, AV.op 1 [] 0)] j3.ready)), (7, aj.arr 3 (aa) 0 false v0)], nx := 15 } (aQ 0 (aZ prog 7 f186.results.toList ah)) := (bq [2, 4] bw rfl).trans (by obtain ⟨hl, h⟩ := bc iD bw; rw [h]; kernel_rfl)
noncomputable def ag4 (at_ : Nat) (off : Int) (ds ss l A : af) (p : Int) (nx : Nat) (o : AV) (oh : LHp) : LSt := ⟨aw 6 [(0, .ref 6), (1, .op 0 [] 0), (3, .os at_ 0), (4, I p)], ua off ds ss l o oh ++ [(at_, .arr 3 aa 0 false A)], nx⟩
noncomputable def G2 (off : Int) (ds ss l A : af) (p : Int) : LSt := ag4 7 off ds ss l A p 15 .nils []
noncomputable def lx (off : Int) (ds ss l A : af) (p : Int) (out : af) : LSt := ag4 8 off ds ss l A p 16 (.os 7 0) [(7, .arr 2 aa 0 false out)]
noncomputable def ub (off : Int) (ds ss l A : af) (p : Int) (out : af) (i : Int) : LSt := ⟨aw 6 [(0, .ref 6), (1, .op 0 [] 0), (3, .os 8 0), (4, I p), (5, I i)], (lx off ds ss l A p out).hp, 16⟩
noncomputable def zn : AEx -> LSt -> Option (aq × LHp) := (aQ 0 (aZ prog 7 f186.results.toList ah))
theorem Ow (off : Int) (ds ss l A : af) (p : Int) (n : Nat) : lp iD bw kM (n + 1) (G2 off ds ss l A p) zn = bif decide (p >= Int.ofNat l.length) then some (aq.ret [], [(0, aj.box (AV.d Y0 (off, ds, ss, PUnit.unit))), (1, aj.box AV.nils), (2, aj.box (I 1)), (3, aj.box AV.nils), (4, aj.box (AV.d (aa).slice l)), (5, aj.box (AV.d Y0 (off, ds, ss, PUnit.unit))), (6, aj.rc (dx.loop hM [(0, AV.d Y0 (off, ds, ss, PUnit.unit)), (1, AV.d (aa).slice l), (2, AV.op 5 [] 0), (3, AV.op 4 [] 0), (4, AV.op 3 [] 0), (5, AV.op 2 [] 0), (6, AV.op 1 [] 0)] (j3.done Jmp.ret)))]) else (idx l p).bind fun v1 => (hlp iD bw) uY _ { fr := aw 6 [(0, AV.ref 6), (1, AV.op 0 [] 0), (3, AV.os 8 0), (4, I p), (5, I (i64.wrap (Int.ofNat A.length - 1)))], hp := [(0, aj.box (AV.d Y0 (off, ds, ss, PUnit.unit))), (1, aj.box (AV.os 7 0)), (7, aj.arr 2 (aa) 0 false [v1]), (2, aj.box (I 0)), (3, aj.box AV.nils), (4, aj.box (AV.d (aa).slice l)), (5, aj.box (AV.d Y0 (off, ds, ss, PUnit.unit))), (6, aj.rc (dx.loop hM [(0, AV.d Y0 (off, ds, ss, PUnit.unit)), (1, AV.d (aa).slice l), (2, AV.op 5 [] 0), (3, AV.op 4 [] 0), (4, AV.op 3 [] 0), (5, AV.op 2 [] 0), (6, AV.op 1 [] 0)] j3.ready)), (8, aj.arr 3 (aa) 0 false A)], nx := 16 } (aQ 2 (aX iD bw [2, 4] (hlp iD bw) ab6 (aQ 1 (oE iD bw [2, 4] (hlp iD bw) kM n zn)))) := by
 rw [lY [2, 4]]
 obtain ⟨hl, h⟩ := bc iD bw
 rw [h]
 kernel_rfl
theorem Ox (off : Int) (ds ss l A : af) (p o : Int) (out : af) (n : Nat) : lp iD bw kM (n + 1) (lx off ds ss l A p (o :: out)) zn = bif decide (p >= Int.ofNat l.length) then some (aq.ret [], [(0, aj.box (AV.d Y0 (off, ds, ss, PUnit.unit))), (1, aj.box (AV.os 7 0)), (7, aj.arr 2 (aa) 0 false (o :: out)), (2, aj.box (I 1)), (3, aj.box AV.nils), (4, aj.box (AV.d (aa).slice l)), (5, aj.box (AV.d Y0 (off, ds, ss, PUnit.unit))), (6, aj.rc (dx.loop hM [(0, AV.d Y0 (off, ds, ss, PUnit.unit)), (1, AV.d (aa).slice l), (2, AV.op 5 [] 0), (3, AV.op 4 [] 0), (4, AV.op 3 [] 0), (5, AV.op 2 [] 0), (6, AV.op 1 [] 0)] (j3.done Jmp.ret)))]) else (idx l p).bind fun v1 => (app (o :: out) [v1]).bind fun v2 => (hlp iD bw) uY _ { fr := aw 6 [(0, AV.ref 6), (1, AV.op 0 [] 0), (3, AV.os 8 0), (4, I p), (5, I (i64.wrap (Int.ofNat A.length - 1)))], hp := [(0, aj.box (AV.d Y0 (off, ds, ss, PUnit.unit))), (1, aj.box (AV.os 7 0)), (7, aj.arr 2 (aa) 0 false v2), (2, aj.box (I 0)), (3, aj.box AV.nils), (4, aj.box (AV.d (aa).slice l)), (5, aj.box (AV.d Y0 (off, ds, ss, PUnit.unit))), (6, aj.rc (dx.loop hM [(0, AV.d Y0 (off, ds, ss, PUnit.unit)), (1, AV.d (aa).slice l), (2, AV.op 5 [] 0), (3, AV.op 4 [] 0), (4, AV.op 3 [] 0), (5, AV.op 2 [] 0), (6, AV.op 1 [] 0)] j3.ready)), (8, aj.arr 3 (aa) 0 false A)], nx := 16 } (aQ 2 (aX iD bw [2, 4] (hlp iD bw) ab6 (aQ 1 (oE iD bw [2, 4] (hlp iD bw) kM n zn)))) := by
 rw [lY [2, 4]]
 obtain ⟨hl, h⟩ := bc iD bw
 rw [h]
 kernel_rfl
theorem Oy (off : Int) (ds ss l A : af) (p : Int) (out : af) (i : Int) (n : Nat) {R : Type} (k : AEx -> LSt -> Option R) : lp iD bw uY (n + 1) (ub off ds ss l A p out i) k = bif decide (i >= 0) then (idx A i).bind fun v1 => (A[i.toNat]?).bind fun v2 => (idx A i).bind fun v3 => (fv A i.toNat (i64.wrap (v2 + 1))).bind fun v4 => (idx ss i).bind fun v5 => (idx v4 i).bind fun v6 => (v4[i.toNat]?).bind fun v7 => (idx ds i).bind fun v8 => bif decide (v7 < v8) then k (AEx.exit 2) { fr := aw 6 [(0, AV.ref 6), (1, AV.op 0 [] 0), (3, AV.os 8 0), (4, I (i64.wrap (p + v5))), (5, I i), (19, I i), (20, B true), (23, AV.os 8 0), (24, I i), (25, AV.oe 8 0 i.toNat), (26, I v2), (27, I (i64.wrap (v2 + 1))), (28, AV.oe 8 0 i.toNat), (29, I p), (30, AV.op 0 [2] 2), (31, AV.d (aa).slice ss), (32, I i), (33, AV.ip (aa) v5), (34, I v5), (35, I (i64.wrap (p + v5))), (36, AV.os 8 0), (37, I i), (38, AV.oe 8 0 i.toNat), (39, I v7), (40, AV.op 0 [1] 1), (41, AV.d (aa).slice ds), (42, I i), (43, AV.ip (aa) v8), (44, I v8), (45, B true)], hp := [(8, aj.arr 3 (aa) 0 false v4), (0, aj.box (AV.d Y0 (off, ds, ss, PUnit.unit))), (1, aj.box (AV.os 7 0)), (7, aj.arr 2 (aa) 0 false out), (2, aj.box (I 0)), (3, aj.box AV.nils), (4, aj.box (AV.d (aa).slice l)), (5, aj.box (AV.d Y0 (off, ds, ss, PUnit.unit))), (6, aj.rc (dx.loop hM [(0, AV.d Y0 (off, ds, ss, PUnit.unit)), (1, AV.d (aa).slice l), (2, AV.op 5 [] 0), (3, AV.op 4 [] 0), (4, AV.op 3 [] 0), (5, AV.op 2 [] 0), (6, AV.op 1 [] 0)] j3.ready)), (8, aj.arr 3 (aa) 0 false A)], nx := 16 } else (idx v4 i).bind fun v10 => (v4[i.toNat]?).bind fun v11 => (idx ss i).bind fun v12 => (idx v4 i).bind fun v13 => (fv v4 i.toNat 0).bind fun C4 => lp iD bw uY n { fr := aw 6 [(0, AV.ref 6), (1, AV.op 0 [] 0), (3, AV.os 8 0), (4, I (i64.wrap (i64.wrap (p + v5) - i64.wrap (v11 * v12)))), (5, I (i64.wrap (i - 1)))], hp := [(0, aj.box (AV.d Y0 (off, ds, ss, PUnit.unit))), (1, aj.box (AV.os 7 0)), (7, aj.arr 2 (aa) 0 false out), (2, aj.box (I 0)), (3, aj.box AV.nils), (4, aj.box (AV.d (aa).slice l)), (5, aj.box (AV.d Y0 (off, ds, ss, PUnit.unit))), (6, aj.rc (dx.loop hM [(0, AV.d Y0 (off, ds, ss, PUnit.unit)), (1, AV.d (aa).slice l), (2, AV.op 5 [] 0), (3, AV.op 4 [] 0), (4, AV.op 3 [] 0), (5, AV.op 2 [] 0), (6, AV.op 1 [] 0)] j3.ready)), (8, aj.arr 3 (aa) 0 false C4)], nx := 16 } k else k (AEx.exit 2) { fr := aw 6 [(0, AV.ref 6), (1, AV.op 0 [] 0), (3, AV.os 8 0), (4, I p), (5, I i), (19, I i), (20, B false)], hp := [(0, aj.box (AV.d Y0 (off, ds, ss, PUnit.unit))), (1, aj.box (AV.os 7 0)), (7, aj.arr 2 (aa) 0 false out), (2, aj.box (I 0)), (3, aj.box AV.nils), (4, aj.box (AV.d (aa).slice l)), (5, aj.box (AV.d Y0 (off, ds, ss, PUnit.unit))), (6, aj.rc (dx.loop hM [(0, AV.d Y0 (off, ds, ss, PUnit.unit)), (1, AV.d (aa).slice l), (2, AV.op 5 [] 0), (3, AV.op 4 [] 0), (4, AV.op 3 [] 0), (5, AV.op 2 [] 0), (6, AV.op 1 [] 0)] j3.ready)), (8, aj.arr 3 (aa) 0 false A)], nx := 16 } := by kernel_rfl
noncomputable def W1 (off : Int) (ds ss l A : af) (p : Int) (out : af) : LSt := ⟨aw 6 [(0, .ref 6), (1, .op 0 [] 0), (3, .os 8 0), (4, I p), (5, I (-1)), (19, I (-1)), (20, B false), (61, I (-1)), (62, B true)], (lx off ds ss l A p out).hp, 16⟩
theorem acd (off : Int) (ds ss l A : af) (p : Int) (out : af) : zn .ret (W1 off ds ss l A p out) = some (aq.ret [], [(0, aj.box (AV.d Y0 (off, ds, ss, PUnit.unit))), (1, aj.box (AV.os 7 0)), (7, aj.arr 2 (aa) 0 false out), (2, aj.box (I 0)), (3, aj.box AV.nils), (4, aj.box (AV.d (aa).slice l)), (5, aj.box (AV.d Y0 (off, ds, ss, PUnit.unit))), (6, aj.rc (dx.loop hM [(0, AV.d Y0 (off, ds, ss, PUnit.unit)), (1, AV.d (aa).slice l), (2, AV.op 5 [] 0), (3, AV.op 4 [] 0), (4, AV.op 3 [] 0), (5, AV.op 2 [] 0), (6, AV.op 1 [] 0)] j3.ready))]) := by kernel_rfl
noncomputable def W2 {R : Type} (n : Nat) (k : AEx -> LSt -> Option R) : AEx -> LSt -> Option R := (aQ 2 (aX iD bw [2, 4] (hlp iD bw) ab6 (aQ 1 (oE iD bw [2, 4] (hlp iD bw) kM n k))))
noncomputable def ag5 (off : Int) (ds ss l A A2 : af) (p p2 : Int) (out : af) (i a b s c d : Int) : LSt := ⟨aw 6 [(0, AV.ref 6), (1, AV.op 0 [] 0), (3, AV.os 8 0), (4, I p2), (5, I i), (19, I i), (20, B true), (23, AV.os 8 0), (24, I i), (25, AV.oe 8 0 i.toNat), (26, I a), (27, I b), (28, AV.oe 8 0 i.toNat), (29, I p), (30, AV.op 0 [2] 2), (31, AV.d (aa).slice ss), (32, I i), (33, AV.ip (aa) s), (34, I s), (35, I p2), (36, AV.os 8 0), (37, I i), (38, AV.oe 8 0 i.toNat), (39, I c), (40, AV.op 0 [1] 1), (41, AV.d (aa).slice ds), (42, I i), (43, AV.ip (aa) d), (44, I d), (45, B true)], (8, aj.arr 3 aa 0 false A2) :: (lx off ds ss l A p out).hp, 16⟩
noncomputable def ag6 (off : Int) (ds ss l A : af) (p : Int) (out : af) (i : Int) : LSt := ⟨aw 6 [(0, AV.ref 6), (1, AV.op 0 [] 0), (3, AV.os 8 0), (4, I p), (5, I i), (19, I i), (20, B false)], (lx off ds ss l A p out).hp, 16⟩
theorem Vl (off : Int) (ds ss l A A2 : af) (p p2 : Int) (out : af) (j : Nat) (a b s c d : Int) (n : Nat) {R : Type} (k : AEx -> LSt -> Option R) : W2 n k (.exit 2) (ag5 off ds ss l A A2 p p2 out (Int.ofNat j) a b s c d) = lp iD bw kM n (lx off ds ss l A2 p2 out) k :=
 Eq.trans (b := lpH iD bw [2, 4] (hlp iD bw) kM n (lx off ds ss l A2 p2 out) k) (by kernel_rfl) kZ
theorem Vn (off : Int) (ds ss l A : af) (p : Int) (out : af) (n : Nat) {R : Type} (k : AEx -> LSt -> Option R) : W2 n k (.exit 2) (ag6 off ds ss l A p out (-1)) = k .ret (W1 off ds ss l A p out) := by kernel_rfl
noncomputable def Vo (off : Int) (ds ss l : af) (o : AV) (oh : LHp) : LHp := [(0, bxV off ds ss), (1, .box o)] ++ oh ++ [(2, .box (I 1)), (3, .box .nils), (4, .box (.d (.slice aa) l)), (5, bxV off ds ss), (6, .rc (.loop hM (Ov off ds ss l) (.done Jmp.ret)))]
theorem ace (F : FnE) (off : Int) (ds ss l out : af) : wa [5, 4, 3, 2, 1, 0, 6] (lv off ds ss l) 7 (rfK (tZ off ds ss l) (lv off ds ss l) 6 (RKr F)) (rfP (tZ off ds ss l) (lv off ds ss l) 6 (RKr F)) (.ret []) (ua off ds ss l (.os 7 0) [(7, .arr 2 aa 0 false out)]) = some (aq.ret [AV.os 0 0, I 0], [(0, aj.arr 2 (aa) 0 false out)]) := by kernel_rfl
theorem acf (F : FnE) (off : Int) (ds ss l out : af) : wa [5, 4, 3, 2, 1, 0, 6] (lv off ds ss l) 7 (rfK (tZ off ds ss l) (lv off ds ss l) 6 (RKr F)) (rfP (tZ off ds ss l) (lv off ds ss l) 6 (RKr F)) (.ret []) (Vo off ds ss l (.os 7 0) [(7, .arr 2 aa 0 false out)]) = az [AV.nils, I 1] := by kernel_rfl
theorem acg (F : FnE) (off : Int) (ds ss l : af) : wa [5, 4, 3, 2, 1, 0, 6] (lv off ds ss l) 7 (rfK (tZ off ds ss l) (lv off ds ss l) 6 (RKr F)) (rfP (tZ off ds ss l) (lv off ds ss l) 6 (RKr F)) (.ret []) (Vo off ds ss l .nils []) = az [AV.nils, I 1] := by kernel_rfl
theorem uc : ∀ (ds t : List Nat), dot (dR ds 0) t = 0
 | [], t => by cases t <;> rfl
 | _ :: r, [] => rfl
 | _ :: r, s :: t => by
  show 0 / aE r * s + dot (dR r (0 % aE r)) t = 0
  rw [Nat.zero_div, Nat.zero_mod, Nat.zero_mul, uc r t]
def CW (n : Nat) (f : Nat -> Int) : af := (List.range n).map f
theorem ud (n : Nat) (f : Nat -> Int) : (CW n f).length = n := by simp [CW]
theorem p9 {M C i : Nat} (h : i < M) : i * C + C <= M * C := by
 have := Nat.mul_le_mul_right C (show i + 1 <= M by omega)
 rw [Nat.add_mul, Nat.one_mul] at this
 exact this
theorem wA {C i j p : Nat} (hj : j < C) : p = i * C + j ↔ p / C = i /\ p % C = j := by
 constructor
 ·intro h
  subst h
  constructor
  ·rw [Nat.mul_comm, Nat.mul_add_div (by omega), Nat.div_eq_of_lt hj, Nat.add_zero]
  ·rw [Nat.mul_comm, Nat.mul_add_mod, Nat.mod_eq_of_lt hj]
 ·intro h
  have := Nat.div_add_mod p C
  rw [h.1, h.2, Nat.mul_comm] at this
  exact this.symm
theorem Oz (n : Nat) (f : Nat -> Int) : CW (n + 1) f = CW n f ++ [f n] := by
 unfold CW
 rw [List.range_succ, List.map_append]
 rfl
theorem ajB {l : af} {p : Nat} (h : p < l.length) : idx l (p : Int) = some (l.getD p 0) /\ l[p]? = some (l.getD p 0) := by
 have e : l[p]? = some (l.getD p 0) := by rw [List.getD_eq_getElem?_getD, List.getElem?_eq_getElem h]; rfl
 exact ⟨by unfold idx; rw [if_pos (by omega), Int.toNat_natCast, e], e⟩
theorem ag7 {xs : af} {y : Int} (h : xs.length <= 65536) : app xs [y] = some (xs ++ [y]) := by
 unfold app
 rw [if_pos (by unfold lim; simp only [List.length_cons, List.length_nil]; omega)]
theorem G3 {E : Env} (hE : E.Good) {fn : Func} {depth : Nat} {live : List (Nat × List Nat)} {args : List AV} {hs aH : LHp} {ae : aq} (h : aC E fn depth live args hs ah = some (ae, aH)) {R : Type} (k : aq -> LHp -> Option R) : aC E fn depth live args hs k = k ae aH := by
 rw [rp hE] at h ⊢
 cases hx : sM E fn depth live args hs with
 | none => rw [hx] at h; cases h
 | some p => rw [hx] at h; cases h; rfl
section
variable {off : Int} {l out : af} {m : Nat} {R : Type} {k : AEx -> LSt -> Option R}
theorem ach {Ap dp sp : af} {Ar dr sr : af} {c d s base n : Nat} (h1 : dp.length = Ap.length) (h2 : sp.length = Ap.length) (hc : c < d) (hd : d <= 65536) (hs : s <= 65536) (hb : base + 4295032832 <= 4611686018427387904) (hA : Ap.length <= 65536) :
  lp iD bw uY (n + 1) (ub off (dp ++ (d : Int) :: dr) (sp ++ (s : Int) :: sr) l (Ap ++ (c : Int) :: Ar) ((base + c * s : Nat) : Int) out (Int.ofNat Ap.length)) (W2 m k) =
   if c + 1 < d then lp iD bw kM m (lx off (dp ++ (d : Int) :: dr) (sp ++ (s : Int) :: sr) l (Ap ++ ((c + 1 : Nat) : Int) :: Ar) ((base + (c + 1) * s : Nat) : Int) out) k
   else lp iD bw uY n (ub off (dp ++ (d : Int) :: dr) (sp ++ (s : Int) :: sr) l (Ap ++ (0 : Int) :: Ar) (base : Int) out ((Ap.length : Int) - 1)) (W2 m k) := by
 have c1 : c * s <= 65536 * 65536 := Nat.mul_le_mul (by omega) hs
 have c2 : (c + 1) * s = c * s + s := by rw [Nat.add_mul, Nat.one_mul]
 have w1 : i64.wrap ((c : Int) + 1) = ((c + 1 : Nat) : Int) := by rw [aI (by omega) (by omega)]; omega
 have w2 : i64.wrap (((base + c * s : Nat) : Int) + s) = ((base + (c + 1) * s : Nat) : Int) := by rw [c2, aI (by omega) (by omega)]; omega
 have gA : idx (Ap ++ (c : Int) :: Ar) (Int.ofNat Ap.length) = some (c : Int) := mQ
 have gA' : (Ap ++ (c : Int) :: Ar)[(Int.ofNat Ap.length).toNat]? = some (c : Int) := yQ
 have gS : fv (Ap ++ (c : Int) :: Ar) (Int.ofNat Ap.length).toNat ((c + 1 : Nat) : Int) = some (Ap ++ ((c + 1 : Nat) : Int) :: Ar) := yR
 have gs : idx (sp ++ (s : Int) :: sr) (Int.ofNat Ap.length) = some (s : Int) := by rw [← h2]; exact mQ
 have gB : idx (Ap ++ ((c + 1 : Nat) : Int) :: Ar) (Int.ofNat Ap.length) = some ((c + 1 : Nat) : Int) := mQ
 have gB' : (Ap ++ ((c + 1 : Nat) : Int) :: Ar)[(Int.ofNat Ap.length).toNat]? = some ((c + 1 : Nat) : Int) := yQ
 have gd : idx (dp ++ (d : Int) :: dr) (Int.ofNat Ap.length) = some (d : Int) := by rw [← h1]; exact mQ
 have gZ : fv (Ap ++ ((c + 1 : Nat) : Int) :: Ar) (Int.ofNat Ap.length).toNat (0 : Int) = some (Ap ++ (0 : Int) :: Ar) := yR
 rw [Oy, aD (show Int.ofNat Ap.length >= 0 from Int.natCast_nonneg _), ai, gA, aB, gA', aB, aB, w1, gS, aB, gs, aB, gB, aB, gB', aB, gd, aB, w2]
 by_cases h : c + 1 < d
 ·rw [if_pos h, aD (show ((c + 1 : Nat) : Int) < (d : Int) by omega), ai]
  exact Vl off _ _ l (Ap ++ (c : Int) :: Ar) _ _ _ out Ap.length _ _ _ _ _ m k
 ·have w3 : i64.wrap (((c + 1 : Nat) : Int) * s) = (((c + 1) * s : Nat) : Int) := by rw [← Int.natCast_mul]; exact aI (by omega) (by omega)
  have w4 : i64.wrap (((base + (c + 1) * s : Nat) : Int) - (((c + 1) * s : Nat) : Int)) = (base : Int) := by rw [aI (by omega) (by omega)]; omega
  have w5 : i64.wrap (Int.ofNat Ap.length - 1) = (Ap.length : Int) - 1 := aI (by simp only [aK]; omega) (by simp only [aK]; omega)
  rw [if_neg h, bU (show ¬ (((c + 1 : Nat) : Int) < (d : Int)) by omega), ax]
  simp only [aB, gZ, w3, w4, w5]
  rfl
theorem ag8 : ∀ (zk ssuf : List Nat) (Ap dp sp : af) (q base n : Nat), dp.length = Ap.length -> sp.length = Ap.length -> ssuf.length = zk.length -> (∀ d ∈ zk, d <= 65536) -> (∀ s ∈ ssuf, s <= 65536) -> q < aE zk -> base + zk.length * 4295032832 <= 4611686018427387904 -> Ap.length + zk.length <= 65536 -> zk.length < n ->
  lp iD bw uY n (ub off (dp ++ ints zk) (sp ++ ints ssuf) l (Ap ++ ints (dR zk q)) ((base + dot (dR zk q) ssuf : Nat) : Int) out (((Ap.length + zk.length : Nat) : Int) - 1)) (W2 m k) =
   if q + 1 < aE zk then lp iD bw kM m (lx off (dp ++ ints zk) (sp ++ ints ssuf) l (Ap ++ ints (dR zk (q + 1))) ((base + dot (dR zk (q + 1)) ssuf : Nat) : Int) out) k
   else lp iD bw uY (n - zk.length) (ub off (dp ++ ints zk) (sp ++ ints ssuf) l (Ap ++ ints (dR zk 0)) (base : Int) out ((Ap.length : Int) - 1)) (W2 m k) := by
 intro zk
 induction zk with
 | nil =>
  intro ssuf Ap dp sp q base n _ _ _ _ _ hq _ _ _
  have hq : q < 1 := hq
  have : q = 0 := by omega
  subst this
  rw [if_neg (show ¬ (0 + 1 < aE []) from by show ¬ (0 + 1 < 1); omega)]
  rfl
 | cons d r ih =>
  intro ssuf Ap dp sp q base n h1 h2 h3 h4 h5 hq hb hA hn
  match ssuf, h3, h5 with
  | s :: t, h3, h5 =>
   have hd := h4 d (by simp)
   have hs := h5 s (by simp)
   have hq : q < d * aE r := hq
   have hN : 0 < aE r := by
    rcases Nat.eq_zero_or_pos (aE r) with h0 | h0
    ·rw [h0, Nat.mul_zero] at hq; omega
    ·exact h0
   have hc : q / aE r < d := Nat.div_lt_of_lt_mul (by rw [Nat.mul_comm]; exact hq)
   have hq' : q % aE r < aE r := Nat.mod_lt _ hN
   have hqe : q = q / aE r * aE r + q % aE r := by rw [Nat.mul_comm]; exact (Nat.div_add_mod _ _).symm
   generalize hcd : q / aE r = c at *
   generalize hqd : q % aE r = q' at *
   have pw : c * s <= 65536 * 65536 := Nat.mul_le_mul (by omega) hs
   simp only [List.length_cons] at hb hA hn h3
   have key := ih t (Ap ++ [(c : Int)]) (dp ++ [(d : Int)]) (sp ++ [(s : Int)]) q' (base + c * s) n (by simp [h1]) (by simp [h2]) (by omega) (fun x hx => h4 x (by simp [hx])) (fun x hx => h5 x (by simp [hx])) hq' (by omega) (by simp; omega) (by omega)
   simp only [List.append_assoc, List.singleton_append, List.length_append, List.length_cons, List.length_nil] at key
   have eI : (((Ap.length + (d :: r).length : Nat) : Int) - 1) = (((Ap.length + (0 + 1) + r.length : Nat) : Int) - 1) := by simp only [List.length_cons]; omega
   have eP : ∀ z, base + dot (c :: dR r z) (s :: t) = base + c * s + dot (dR r z) t := fun z => by show base + (c * s + _) = _; omega
   have eD : dR (d :: r) q = c :: dR r q' := by show q / aE r :: dR r (q % aE r) = _; rw [hcd, hqd]
   rw [eI, eD, eP, gY, gY, gY]
   refine key.trans ?_
   show _ = if q + 1 < d * aE r then _ else _
   by_cases bJ : q' + 1 < aE r
   ·have hrow : (c + 1) * aE r <= d * aE r := Nat.mul_le_mul_right _ hc
    rw [Nat.add_mul, Nat.one_mul] at hrow
    have hp := (wA (i := c) (p := q + 1) (j := q' + 1) bJ).mp (by omega)
    have eD2 : dR (d :: r) (q + 1) = c :: dR r (q' + 1) := by show (q + 1) / aE r :: dR r ((q + 1) % aE r) = _; rw [hp.1, hp.2]
    rw [if_pos bJ, if_pos (by omega), eD2, eP, gY]
   ·have hrow : (c + 1) * aE r = c * aE r + aE r := by rw [Nat.add_mul, Nat.one_mul]
    rw [if_neg bJ]
    obtain ⟨n', zj⟩ : ∃ n', n - r.length = n' + 1 := ⟨n - r.length - 1, by omega⟩
    have e1 : (((Ap.length + (0 + 1) : Nat) : Int) - 1) = Int.ofNat Ap.length := by simp only [aK]; omega
    rw [zj, e1, ach h1 h2 hc hd hs (by omega) (by omega)]
    by_cases hlt2 : c + 1 < d
    ·have hrow2 : (c + 1 + 1) * aE r <= d * aE r := Nat.mul_le_mul_right _ hlt2
     rw [Nat.add_mul _ 1, Nat.one_mul] at hrow2
     have hp := (wA (i := c + 1) (p := q + 1) (j := 0) hN).mp (by omega)
     have eD2 : dR (d :: r) (q + 1) = (c + 1) :: dR r 0 := by show (q + 1) / aE r :: dR r ((q + 1) % aE r) = _; rw [hp.1, hp.2]
     have e0 : dot (dR r 0) t = 0 := uc r t
     rw [if_pos hlt2, if_pos (by omega), eD2, gY]
     show _ = lp iD bw kM m (lx off _ _ l _ ((base + ((c + 1) * s + dot (dR r 0) t) : Nat) : Int) out) k
     rw [e0]
     rfl
    ·have hce : c + 1 = d := by omega
     have eD0 : dR (d :: r) 0 = 0 :: dR r 0 := by show 0 / aE r :: dR r (0 % aE r) = _; rw [Nat.zero_div, Nat.zero_mod]
     rw [if_neg hlt2, if_neg (by rw [← hce, hrow]; omega), eD0, gY]
     have en : n - (d :: r).length = n' := by simp only [List.length_cons]; omega
     rw [en]
     rfl
end
noncomputable def Js (off : Int) (ds ss l out : af) : LHp := ua off ds ss l (.os 7 0) [(7, .arr 2 aa 0 false out)]
def rdX (off : Int) (ds ss l : af) (r : Option (aq × LHp)) : Prop := r = some (.ret [], Vo off ds ss l .nils []) \/ ∃ out, r = some (.ret [], Vo off ds ss l (.os 7 0) [(7, .arr 2 aa 0 false out)])
def W3 (off : Nat) (ds ss : List Nat) (l : af) : af := CW (aE ds) (fun q => l.getD (off + dot (dR ds q) ss) 0)
noncomputable def wB (off : Int) (ds ss l A : af) (p : Int) (out : af) : LSt := match out with
 | [] => G2 off ds ss l A p
 | o :: r => lx off ds ss l A p (o :: r)
section
variable {off : Nat} {l : af} {ds ss : List Nat}
theorem aci (out : af) (A : af) (p : Int) (n m : Nat) : lp iD bw uY (n + 1) (ub off (ints ds) (ints ss) l A p out (-1)) (W2 m zn) = some (.ret [], Js off (ints ds) (ints ss) l out) := by
 rw [Oy, bU (show ¬ ((-1 : Int) >= 0) by decide), ax]
 exact (Vn off (ints ds) (ints ss) l A p out m zn).trans (acd off (ints ds) (ints ss) l A p out)
theorem OA {q n : Nat} (hp : ¬ (off + dot (dR ds q) ss < l.length)) : rdX off (ints ds) (ints ss) l (lp iD bw kM (n + 1) (wB off (ints ds) (ints ss) l (ints (dR ds q)) ((off + dot (dR ds q) ss : Nat) : Int) (CW q (fun q => l.getD (off + dot (dR ds q) ss) 0))) zn) := by
 have uA : decide (((off + dot (dR ds q) ss : Nat) : Int) >= Int.ofNat l.length) = true := aD (by simp only [aK]; omega)
 cases htab : CW q (fun q => l.getD (off + dot (dR ds q) ss) 0) with
 | nil =>
  have h := Ow off (ints ds) (ints ss) l (ints (dR ds q)) ((off + dot (dR ds q) ss : Nat) : Int) n
  rw [uA, ai] at h
  exact .inl h
 | cons o r =>
  have h := Ox off (ints ds) (ints ss) l (ints (dR ds q)) ((off + dot (dR ds q) ss : Nat) : Int) o r n
  rw [uA, ai] at h
  exact .inr ⟨o :: r, h⟩
theorem G4 (h3 : ss.length = ds.length) (h1 : ∀ d ∈ ds, d <= 65536) (h5 : ∀ s ∈ ss, s <= 65536) (hr : ds.length <= 6) (ho : off <= 65536) (hN : aE ds <= 65536) {q : Nat} (hq : q < aE ds) (hp : off + dot (dR ds q) ss < l.length) (n : Nat) :
  lp iD bw kM (n + 1) (wB off (ints ds) (ints ss) l (ints (dR ds q)) ((off + dot (dR ds q) ss : Nat) : Int) (CW q (fun q => l.getD (off + dot (dR ds q) ss) 0))) zn =
   if q + 1 < aE ds then lp iD bw kM n (wB off (ints ds) (ints ss) l (ints (dR ds (q + 1))) ((off + dot (dR ds (q + 1)) ss : Nat) : Int) (CW (q + 1) (fun q => l.getD (off + dot (dR ds q) ss) 0))) zn
   else some (.ret [], Js off (ints ds) (ints ss) l (CW (q + 1) (fun q => l.getD (off + dot (dR ds q) ss) 0))) := by
 have hf : fu = 18446744073709551616 := rfl
 obtain ⟨g1, _⟩ := ajB hp
 have uA : decide (((off + dot (dR ds q) ss : Nat) : Int) >= Int.ofNat l.length) = false := bU (by simp only [aK]; omega)
 have hw : i64.wrap (Int.ofNat (ints (dR ds q)).length - 1) = ((0 + ds.length : Nat) : Int) - 1 := by
  rw [dC, GX, aI (by simp only [aK]; omega) (by simp only [aK]; omega), Nat.zero_add]
  rfl
 have hlen : (CW q (fun q => l.getD (off + dot (dR ds q) ss) 0)).length = q := ud _ _
 have key : ∀ out : af, out ≠ [] -> lp iD bw uY fu (ub off (ints ds) (ints ss) l (ints (dR ds q)) ((off + dot (dR ds q) ss : Nat) : Int) out (((0 + ds.length : Nat) : Int) - 1)) (W2 n zn) =
   if q + 1 < aE ds then lp iD bw kM n (wB off (ints ds) (ints ss) l (ints (dR ds (q + 1))) ((off + dot (dR ds (q + 1)) ss : Nat) : Int) out) zn
   else some (.ret [], Js off (ints ds) (ints ss) l out) := by
  intro out j2
  refine (ag8 (off := off) (l := l) (out := out) (m := n) (k := zn) ds ss [] [] [] q off fu rfl rfl h3 h1 h5 hq (by omega) (by simp only [List.length_nil]; omega) (by omega)).trans ?_
  by_cases h : q + 1 < aE ds
  ·rw [if_pos h, if_pos h]
   cases out with
   | nil => exact absurd rfl j2
   | cons o r => rfl
  ·rw [if_neg h, if_neg h]
   obtain ⟨n', zj⟩ : ∃ n', fu - ds.length = n' + 1 := ⟨fu - ds.length - 1, by omega⟩
   rw [zj]
   exact aci out _ _ n' n
 rw [Oz]
 cases htab : CW q (fun q => l.getD (off + dot (dR ds q) ss) 0) with
 | nil =>
  refine Eq.trans ?_ (key ([] ++ [l.getD (off + dot (dR ds q) ss) 0]) (by simp))
  show lp iD bw kM (n + 1) (G2 off (ints ds) (ints ss) l (ints (dR ds q)) ((off + dot (dR ds q) ss : Nat) : Int)) zn = _
  rw [Ow, uA, ax, g1, aB, hw]
  kernel_rfl
 | cons o r =>
  have j1 : (o :: r).length <= 65536 := by rw [← htab, hlen]; omega
  refine Eq.trans ?_ (key ((o :: r) ++ [l.getD (off + dot (dR ds q) ss) 0]) (by simp))
  show lp iD bw kM (n + 1) (lx off (ints ds) (ints ss) l (ints (dR ds q)) ((off + dot (dR ds q) ss : Nat) : Int) (o :: r)) zn = _
  rw [Ox, uA, ax, g1, aB, ag7 j1, aB, hw]
  kernel_rfl
theorem acj (h3 : ss.length = ds.length) (h1 : ∀ d ∈ ds, d <= 65536) (h5 : ∀ s ∈ ss, s <= 65536) (hr : ds.length <= 6) (ho : off <= 65536) (hN : aE ds <= 65536) : ∀ (r q n : Nat), q + r + 1 = aE ds -> r < n ->
  ((∀ p, q <= p -> p < aE ds -> off + dot (dR ds p) ss < l.length) -> lp iD bw kM n (wB off (ints ds) (ints ss) l (ints (dR ds q)) ((off + dot (dR ds q) ss : Nat) : Int) (CW q (fun q => l.getD (off + dot (dR ds q) ss) 0))) zn = some (.ret [], Js off (ints ds) (ints ss) l (W3 off ds ss l)))
  /\ (¬ (∀ p, q <= p -> p < aE ds -> off + dot (dR ds p) ss < l.length) -> rdX off (ints ds) (ints ss) l (lp iD bw kM n (wB off (ints ds) (ints ss) l (ints (dR ds q)) ((off + dot (dR ds q) ss : Nat) : Int) (CW q (fun q => l.getD (off + dot (dR ds q) ss) 0))) zn)) := by
 intro r
 induction r with
 | zero =>
  intro q n hq hn
  obtain ⟨n, rfl⟩ : ∃ m', n = m' + 1 := ⟨n - 1, by omega⟩
  by_cases hp : off + dot (dR ds q) ss < l.length
  ·refine ⟨fun _ => ?_, fun h => absurd (fun p h1 h2 => ?_) h⟩
   ·rw [G4 h3 h1 h5 hr ho hN (show q < aE ds by omega) hp n, if_neg (by omega)]
    unfold W3
    rw [show q + 1 = aE ds by omega]
   ·obtain rfl : p = q := by omega
    exact hp
  ·exact ⟨fun h => absurd (h q (Nat.le_refl _) (by omega)) hp, fun _ => OA hp⟩
 | succ r ih =>
  intro q n hq hn
  obtain ⟨n, rfl⟩ : ∃ m', n = m' + 1 := ⟨n - 1, by omega⟩
  by_cases hp : off + dot (dR ds q) ss < l.length
  ·rw [G4 h3 h1 h5 hr ho hN (show q < aE ds by omega) hp n, if_pos (by omega)]
   have key := ih (q + 1) n (by omega) (by omega)
   refine ⟨fun h => key.1 fun p h1 h2 => h p (by omega) h2, fun h => key.2 fun h2 => h fun p h3 h4 => ?_⟩
   rcases Nat.eq_or_lt_of_le h3 with rfl | h5
   ·exact hp
   ·exact h2 p h5 h4
  ·exact ⟨fun h => absurd (h q (Nat.le_refl _) (by omega)) hp, fun _ => OA hp⟩
theorem OB (h3 : ss.length = ds.length) (h0 : ∀ d ∈ ds, 1 <= d) (h1 : ∀ d ∈ ds, d <= 65536) (h5 : ∀ s ∈ ss, s <= 65536) (hr : ds.length <= 6) (ho : off <= 65536) (hN : aE ds <= 65536) :
  ((∀ p, p < aE ds -> off + dot (dR ds p) ss < l.length) -> aC iD f186 6 [(2, [0, 1, 3, 4]), (4, [0, 1, 3, 4, 5])] [.ref 6, .op 0 [] 0] (ua off (ints ds) (ints ss) l .nils []) ah = some (.ret [], Js off (ints ds) (ints ss) l (W3 off ds ss l)))
  /\ (¬ (∀ p, p < aE ds -> off + dot (dR ds p) ss < l.length) -> rdX off (ints ds) (ints ss) l (aC iD f186 6 [(2, [0, 1, 3, 4]), (4, [0, 1, 3, 4, 5])] [.ref 6, .op 0 [] 0] (ua off (ints ds) (ints ss) l .nils []) ah)) := by
 have hf : fu = 18446744073709551616 := rfl
 have hpos := fa h0
 have key := acj (off := off) (l := l) h3 h1 h5 hr ho hN (aE ds - 1) 0 fu (by omega) (by omega)
 rw [uc, Nat.add_zero, Cj, ← Ol] at key
 have e : aC iD f186 6 [(2, [0, 1, 3, 4]), (4, [0, 1, 3, 4, 5])] [.ref 6, .op 0 [] 0] (ua off (ints ds) (ints ss) l .nils []) ah = lp iD bw kM fu (G2 off (ints ds) (ints ss) l (List.replicate ds.length (0 : Int)) (off : Int)) zn := by
  rw [acb, if_pos ⟨Int.natCast_nonneg _, by rw [dC]; simp only [aK]; omega⟩, aB, show (Int.ofNat (ints ds).length).toNat = ds.length from by rw [dC]; rfl]
  kernel_rfl
 rw [e]
 exact ⟨fun h => key.1 fun p _ h2 => h p h2, fun h => key.2 fun h2 => h fun p h3 => h2 p (Nat.zero_le _) h3⟩
end
theorem OD {s : Int} (h : mh s = false) : 0 <= s /\ s <= 65536 := by
 unfold mh at h
 by_cases h1 : s < 0
 ·rw [aD h1] at h; cases h
 ·rw [bU h1] at h
  have := nz h
  omega
def ack (v : Vw) : List Nat := List.map Int.toNat v.2.1
def ag9 (v : Vw) : List Nat := List.map Int.toNat v.2.2.1
def rdK (v : Vw) (l : af) : Bool := gC v && decide (∀ q, q < aE (ack v) -> v.1.toNat + dot (dR (ack v) q) (ag9 v) < l.length)
def EH (v : Vw) (l : af) : af := bif rdK v l then W3 v.1.toNat (ack v) (ag9 v) l else []
def rdC (v : Vw) (l : af) : Int := bif rdK v l then 0 else 1
theorem OE (args : List AV) (hs : LHp) {R : Type} (k : aq -> LHp -> Option R) : qM.run args hs k = aC iD f186 6 [(2, [0, 1, 3, 4]), (4, [0, 1, 3, 4, 5])] args hs k := rfl
theorem Vp {v : Vw} {l : af} (hg : mR v = true) : gW [.slice aa, aa] (aC (G1 qM) f79 5 [(5, [0, 1, 2, 3, 4, 5, 6, 14, 15, 16, 17, 18, 19, 20, 21, 22, 23, 24])] [.d (Y0) v, .d (.slice aa) l] [] ah) = some (.ret [.d (.slice aa) (EH v l), I (rdC v l)], []) := by
 obtain ⟨off, ds, ss, u⟩ := v
 have e := ab7 qM off ds ss l
 rw [show mR (off, ds, ss, PUnit.unit) = true from hg, ai] at e
 show gW _ (aC (G1 qM) f79 5 [(5, [0, 1, 2, 3, 4, 5, 6, 14, 15, 16, 17, 18, 19, 20, 21, 22, 23, 24])] [.d (Y0) (off, ds, ss, ()), .d (.slice aa) l] [] ah) = _
 have eK : rdK (off, ds, ss, u) l = (gC (off, ds, ss, PUnit.unit) && decide (∀ q, q < aE (ds.map Int.toNat) -> off.toNat + dot (dR (ds.map Int.toNat) q) (ss.map Int.toNat) < l.length)) := rfl
 unfold EH rdC
 rw [eK]
 cases hf : gC (off, ds, ss, PUnit.unit) with
 | false =>
  rw [hf] at e
  rw [e]
  rfl
 | true =>
  rw [hf] at e
  obtain ⟨c1, c2, c3, c4, c5⟩ := pc hf
  obtain ⟨p1, p2, p3, _⟩ := eQ c1
  have ed : ints (ds.map Int.toNat) = ds := mf fun x hx => by have := p1 x hx; omega
  have es : ints (ss.map Int.toNat) = ss := mf fun x hx => (OD (c5 x hx)).1
  have eo : ((off.toNat : Nat) : Int) = off := Int.toNat_of_nonneg c3
  have d1 : ∀ d ∈ ds.map Int.toNat, 1 <= d := fun d hd => by
   obtain ⟨x, hx, rfl⟩ := List.mem_map.1 hd
   have := p1 x hx
   omega
  have hN : aE (ds.map Int.toNat) <= 65536 := by
   have e := jI (ds.map Int.toNat)
   rw [ed] at e
   omega
  have s1 : ∀ s ∈ ss.map Int.toNat, s <= 65536 := fun s hs => by
   obtain ⟨x, hx, rfl⟩ := List.mem_map.1 hs
   have := OD (c5 x hx)
   omega
  have key := OB (off := off.toNat) (l := l) (ds := ds.map Int.toNat) (ss := ss.map Int.toNat) (by rw [List.length_map, List.length_map]; exact c2) d1 (fun d hd => Nat.le_trans (Ck d1 d hd) hN) s1 (by rw [List.length_map]; exact p2) (by omega) hN
  rw [ed, es, eo] at key
  have e2 : aC (G1 qM) f79 5 [(5, [0, 1, 2, 3, 4, 5, 6, 14, 15, 16, 17, 18, 19, 20, 21, 22, 23, 24])] [.d (Y0) (off, ds, ss, ()), .d (.slice aa) l] [] ah = exC (G1 qM) jL Vj ⟨tZ off ds ss l, ab8 off ds ss l, 6⟩ (RKr qM) := e.trans (by kernel_rfl)
  rw [e2, ab9]
  have go : ∀ {aH : LHp} (_ : aC iD f186 6 [(2, [0, 1, 3, 4]), (4, [0, 1, 3, 4, 5])] [.ref 6, .op 0 [] 0] (ua off ds ss l .nils []) ah = some (.ret [], aH)) (k : aq -> LHp -> Option (aq × LHp)), qM.run [.ref 6, .op 0 [] 0] (ua off ds ss l .nils []) k = k (.ret []) aH := fun h k => (OE _ _ k).trans (G3 tp h k)
  by_cases hq : ∀ q, q < aE (ds.map Int.toNat) -> off.toNat + dot (dR (ds.map Int.toNat) q) (ss.map Int.toNat) < l.length
  ·rw [aD hq, go (key.1 hq), show Js off ds ss l (W3 off.toNat (List.map Int.toNat ds) (List.map Int.toNat ss) l) = ua off ds ss l (.os 7 0) [(7, .arr 2 aa 0 false (W3 off.toNat (List.map Int.toNat ds) (List.map Int.toNat ss) l))] from rfl, ace]
   rfl
  ·rw [bU hq]
   rcases key.2 hq with h | ⟨out, h⟩
   ·rw [go h, acg]; rfl
   ·rw [go h, acf]; rfl
def acn : List AV -> LHp -> Tq
 | [.d Y0 v, .d zS l], [] => .br (mR v) (.leaf (.ret [.d (.slice aa) (EH v l), I (rdC v l)]) []) .no
 | _, _ => .no
theorem Vq : bg 79 (ao acn) := by
 have h1 : bg 79 (au (G1 qM) f79 5 [(5, [0, 1, 2, 3, 4, 5, 6, 14, 15, 16, 17, 18, 19, 20, 21, 22, 23, 24])]) := bD Ou func79 call79
 refine aO fun args hs ae aH h' => ?_
 unfold acn at h'
 split at h'
 ·obtain ⟨hg, h2⟩ := Tq.br_no h'
  exact h1.okBQ [.slice aa, aa] ((Vp hg).trans h2)
 ·cases h'
noncomputable def Vr : FnE := au (Wd.add 79 (ao acn)) f43 4 []
theorem yU : bg 43 Vr := eM (jz.add Vq) bO func43 call43 (by decide +kernel) rfl
theorem yV {v : Vw} {l : af} {x : Int} (h : x ∈ EH v l) : x ∈ l := by
 unfold EH at h
 cases hk : rdK v l with
 | false => rw [hk] at h; cases h
 | true =>
  rw [hk, ai] at h
  unfold W3 CW at h
  obtain ⟨q, hq, rfl⟩ := List.mem_map.1 h
  unfold rdK at hk
  rw [ba] at hk
  have h2 := aU hk.2 q (List.mem_range.1 hq)
  rw [List.getD_eq_getElem?_getD, List.getElem?_eq_getElem h2]
  exact List.getElem_mem h2
theorem yW (v : Vw) (l : af) : (EH v l).length <= 65536 := by
 unfold EH
 cases hk : rdK v l with
 | false => exact Nat.zero_le _
 | true =>
  rw [ai]
  unfold W3
  rw [ud]
  unfold rdK at hk
  rw [ba] at hk
  obtain ⟨off, ds, ss, u⟩ := v
  obtain ⟨c1, _⟩ := pc hk.1
  obtain ⟨p1, _, p3, _⟩ := eQ c1
  have e := jI (ds.map Int.toNat)
  rw [mf fun x hx => by have := p1 x hx; omega] at e
  show aE (ds.map Int.toNat) <= 65536
  omega
noncomputable def wC : Code := bd f241
noncomputable def jM : Cfg := ⟨13, 4, 1, [(2, [0, 1, 2, 8, 9, 10, 11])], true⟩
noncomputable def aha : Code := bd f189
noncomputable def EI : Code := cL (cL (cR aha))
noncomputable def lf : Cfg := ⟨16, 5, 3, [(1, [0, 5, 6, 7])], true⟩
noncomputable def qa (F : FnE) : Env := Wd.add 189 F
theorem Jt : (qa qN).Good := jz.add FW
def OF (p : af) : LHp := [(0, .box (.d (.slice aa) p))]
theorem aco (F : FnE) (p : af) : aC (qa F) f241 4 [(2, [0, 1, 2, 8, 9, 10, 11])] [.nils, .fn (.func 189) [] [.op 0 [] 0]] (OF p) ah = (rfp (qa F) jM) (cL (cR (cL (cR wC)))) _ { fr := aw 4 [(0, AV.nils), (1, AV.fn (Fn.func 189) [] [AV.op 0 [] 0]), (2, AV.op 1 [] 0), (4, AV.nils), (6, AV.fn (Fn.func 189) [] [AV.op 0 [] 0])], hp := [(1, aj.box AV.nils), (0, aj.box (AV.d (aa).slice p))], nx := 2 } (aQ 0 (SL (qa F) jM (rfp (qa F) jM) (cR (cR wC)) (aZ prog 1 f241.results.toList ah))) := (Mp jM rfl).trans (by obtain ⟨hl, h⟩ := Mq (qa F) jM; rw [h]; kernel_rfl)
def EJ : Tr := aw 4 [(0, .nils), (1, .fn (.func 189) [] [.op 0 [] 0]), (2, .op 1 [] 0), (4, .nils), (6, .fn (.func 189) [] [.op 0 [] 0])]
def OG (p : af) : LHp := [(1, .box .nils), (0, .box (.d (.slice aa) p))]
noncomputable def mi : vd := ag3 jM (cL (cR (cL (cR wC))))
def acp : List (Nat × AV) := [(0, .nils), (1, .fn (.func 189) [] [.op 1 [] 0]), (2, .op 0 [] 0)]
noncomputable def uZ (p : af) (o : AV) (oh : LHp) : LHp := [(0, .box o)] ++ oh ++ [(1, .box (.d (.slice aa) p)), (2, .rc (.loop mi acp .ready))]
noncomputable def Vs : List (Nat × AV) := j9 ⟨EJ, [], 0⟩ (jv jM mi.assign)
noncomputable def wD (p : af) : LHp := (2, .rc (.loop mi Vs .ready)) :: OG p
theorem acq (F : FnE) (p : af) (k : AEx -> LSt -> Option (aq × LHp)) : exC (qa F) jM (cL (cR (cL (cR wC)))) ⟨EJ, OG p, 2⟩ k =
  F.run [.ref 2, .op 1 [] 0] (uZ p .nils []) (wa [1, 0, 2] (wD p) 3 (rfK EJ (wD p) 2 k) (rfP EJ (wD p) 2 k)) := by kernel_rfl
noncomputable def RKq (F : FnE) : AEx -> LSt -> Option (aq × LHp) := aQ 0 (SL (qa F) jM (rfp (qa F) jM) (cR (cR wC)) (aZ prog 1 f241.results.toList ah))
noncomputable def KVq : AEx -> LSt -> Option (aq × LHp) := (aQ 0 (aZ prog 3 f189.results.toList ah))
theorem acr (p : af) : aC FV f189 5 [(1, [0, 5, 6, 7])] [.ref 2, .op 1 [] 0] (uZ p .nils []) ah = (hlp FV lf) EI _ { fr := aw 5 [(0, AV.ref 2), (5, AV.d (aa).slice p), (6, I (Int.ofNat p.length)), (7, I 0)], hp := [(0, aj.box AV.nils), (1, aj.box (AV.d (aa).slice p)), (2, aj.rc (dx.loop mi [(0, AV.nils), (1, AV.fn (Fn.func 189) [] [AV.op 1 [] 0]), (2, AV.op 0 [] 0)] j3.ready))], nx := 6 } KVq := (bq [1] lf rfl).trans (by obtain ⟨hl, h⟩ := bc FV lf; rw [h]; kernel_rfl)
noncomputable def ahb (p : af) (i : Int) (nx : Nat) (o : AV) (oh : LHp) : LSt := { fr := aw 5 [(0, .ref 2), (5, .d (.slice aa) p), (6, I (Int.ofNat p.length)), (7, I i)], hp := uZ p o oh, nx := nx }
noncomputable def OH (p : af) (i : Int) : LSt := ahb p i 6 .nils []
noncomputable def W4 (p out : af) (i : Int) : LSt := ahb p i 7 (.os 3 0) [(3, .arr 3 aa 0 false out)]
theorem OI (p : af) (i : Int) (n : Nat) : lp FV lf EI (n + 1) (OH p i) KVq = bif decide (i < Int.ofNat p.length) then (idx p i).bind fun v1 => lp FV lf EI n { fr := aw 5 [(0, AV.ref 2), (5, AV.d (aa).slice p), (6, I (Int.ofNat p.length)), (7, I (i64.wrap (i + 1)))], hp := [(0, aj.box (AV.os 3 0)), (3, aj.arr 3 (aa) 0 false [v1]), (1, aj.box (AV.d (aa).slice p)), (2, aj.rc (dx.loop mi [(0, AV.nils), (1, AV.fn (Fn.func 189) [] [AV.op 1 [] 0]), (2, AV.op 0 [] 0)] j3.ready))], nx := 7 } KVq else some (aq.ret [], [(0, aj.box AV.nils), (1, aj.box (AV.d (aa).slice p)), (2, aj.rc (dx.loop mi [(0, AV.nils), (1, AV.fn (Fn.func 189) [] [AV.op 1 [] 0]), (2, AV.op 0 [] 0)] j3.ready))]) := by kernel_rfl
theorem OJ (p : af) (o : Int) (out : af) (i : Int) (n : Nat) : lp FV lf EI (n + 1) (W4 p (o :: out) i) KVq = bif decide (i < Int.ofNat p.length) then (idx p i).bind fun v1 => (app (o :: out) [v1]).bind fun v2 => lp FV lf EI n { fr := aw 5 [(0, AV.ref 2), (5, AV.d (aa).slice p), (6, I (Int.ofNat p.length)), (7, I (i64.wrap (i + 1)))], hp := [(0, aj.box (AV.os 3 0)), (3, aj.arr 3 (aa) 0 false v2), (1, aj.box (AV.d (aa).slice p)), (2, aj.rc (dx.loop mi [(0, AV.nils), (1, AV.fn (Fn.func 189) [] [AV.op 1 [] 0]), (2, AV.op 0 [] 0)] j3.ready))], nx := 7 } KVq else some (aq.ret [], [(0, aj.box (AV.os 3 0)), (3, aj.arr 3 (aa) 0 false (o :: out)), (1, aj.box (AV.d (aa).slice p)), (2, aj.rc (dx.loop mi [(0, AV.nils), (1, AV.fn (Fn.func 189) [] [AV.op 1 [] 0]), (2, AV.op 0 [] 0)] j3.ready))]) := by kernel_rfl
noncomputable def Vt (F : FnE) (p : af) : aq -> LHp -> Option (aq × LHp) := wa [1, 0, 2] (wD p) 3 (rfK EJ (wD p) 2 (RKq F)) (rfP EJ (wD p) 2 (RKq F))
theorem acu (F : FnE) (p : af) : Vt F p (.ret []) (uZ p .nils []) = some (aq.ret [AV.nils], [(0, aj.box (AV.d (aa).slice p))]) := by kernel_rfl
theorem acv (F : FnE) (p out : af) : Vt F p (.ret []) (uZ p (.os 3 0) [(3, .arr 3 aa 0 false out)]) = some (aq.ret [AV.os 1 0], [(0, aj.box (AV.d (aa).slice p)), (1, aj.arr 3 (aa) 0 false out)]) := by kernel_rfl
noncomputable def ahc (p : af) (i : Int) : List Int -> LSt
 | [] => OH p i
 | o :: out => W4 p (o :: out) i
noncomputable def pd (p : af) : List Int -> LHp
 | [] => uZ p .nils []
 | o :: out => uZ p (.os 3 0) [(3, .arr 3 aa 0 false (o :: out))]
def vqN (o : af) (x : Int) : Nx (af) (aq × LHp) := .go (o ++ [x])
theorem G5 (p : af) : ∀ (r o : af), cg vqN (fun o => some (.ret [], pd p o)) r o = some (.ret [], pd p (o ++ r))
 | [], o => by rw [cg, List.append_nil]
 | x :: r, o => by
  have h := G5 p r (o ++ [x])
  rw [List.append_assoc] at h
  exact h
theorem acw {p : af} (hl : p.length <= 2147483648) : lp FV lf EI fu (OH p 0) KVq = some (.ret [], pd p p) := by
 have hm : maxLen = 9223372036854775807 := by decide
 refine (cq (xs := p) (T := fun m s => lp FV lf EI m s KVq) (st := fun (i : Int) (o : af) => ahc p i o) (f := vqN) (fin := fun o => some (.ret [], pd p o)) (fun (i : Nat) (o : af) => o.length = i) (by omega) ?_ ?_ (a := []) rfl).trans (G5 p p [])
 ·intro i o x m hI hi gx gi hw hd
  refine .inl ⟨o ++ [x], rfl, by rw [List.length_append, hI]; rfl, ?_⟩
  cases o with
  | nil =>
   have hs := OI p (i : Int) m
   rw [hd, ai, gi, aB, hw] at hs
   exact hs
  | cons v o =>
   have j1 : (v :: o).length + [x].length <= lim := by rw [hI, List.length_singleton, show lim = 4294967296 from rfl]; omega
   have hs := OJ p v o (i : Int) m
   rw [hd, ai, gi, aB, hw, dI j1, aB] at hs
   exact hs
 ·intro o m hI hd
  cases o with
  | nil =>
   have hs := OI p (p.length : Int) m
   rw [hd, ax] at hs
   exact hs
  | cons v o =>
   have hs := OJ p v o (p.length : Int) m
   rw [hd, ax] at hs
   exact hs
theorem OL (args : List AV) (hs : LHp) {R : Type} (k : aq -> LHp -> Option R) : qN.run args hs k = aC FV f189 5 [(1, [0, 5, 6, 7])] args hs k := rfl
noncomputable def Vu : FnE := au (qa qN) f241 4 [(2, [0, 1, 2, 8, 9, 10, 11])]
theorem G6 : bg 241 Vu := bD Jt func241 call241
def acx : List AV -> LHp -> Tq
 | [.nils, .fn (.func 189) [] [.op 0 [] 0]], [(0, .box (.d zS p))] => .br (decide (p.length <= 2147483648)) (.leaf (.ret [.os 1 0]) [(0, .box (.d (.slice aa) p)), (1, .arr 3 aa 0 false p)]) .no
 | _, _ => .no
theorem Vv {p : af} (hl : p.length <= 2147483648) : aC (qa qN) f241 4 [(2, [0, 1, 2, 8, 9, 10, 11])] [.nils, .fn (.func 189) [] [.op 0 [] 0]] (OF p) ah = Vt qN p (.ret []) (pd p p) := by
 have h1 : aC FV f189 5 [(1, [0, 5, 6, 7])] [.ref 2, .op 1 [] 0] (uZ p .nils []) ah = some (.ret [], pd p p) := (acr p).trans (Eq.trans rfl (acw hl))
 have e2 : aC (qa qN) f241 4 [(2, [0, 1, 2, 8, 9, 10, 11])] [.nils, .fn (.func 189) [] [.op 0 [] 0]] (OF p) ah = exC (qa qN) jM (cL (cR (cL (cR wC)))) ⟨EJ, OG p, 2⟩ (RKq qN) := (aco qN p).trans (by kernel_rfl)
 rw [e2, acq, OL, G3 tq h1]
 rfl
theorem Vx : bg 241 (ao acx) := by
 have h1 : bg 241 (IG 3 aa Vu) := pX G6
 refine aO fun args hs ae aH h' => ?_
 unfold acx at h'
 split at h'
 ·rename_i p
  obtain ⟨hb, h2⟩ := Tq.br_no h'
  have h3 := Vv (aU hb)
  refine h1.ok _ _ _ _ (Eq.trans ?_ h2)
  simp only [IG]
  rw [G6.eq]
  have h5 : Vu.run [.nils, .fn (.func 189) [] [.op 0 [] 0]] (OF p) (fun a h => some (a, h)) = Vt qN p (.ret []) (pd p p) := by
   unfold Vu
   rw [qA]
   exact h3
  rw [show ([(0, aj.box (.d (.slice (.int .i64)) p))] : LHp) = OF p from rfl, h5]
  cases p with
  | nil => rw [show pd [] [] = uZ [] .nils [] from rfl, acu]; rfl
  | cons x p => rw [show pd (x :: p) (x :: p) = uZ (x :: p) (.os 3 0) [(3, .arr 3 aa 0 false (x :: p))] from rfl, acv]; rfl
 ·cases h'
noncomputable def ahd : FnE := au (Wd.add 241 (ao acx)) f187 3 []
theorem Vy : bg 187 ahd := eM (jz.add Vx) bO func187 call187 (by decide +kernel) rfl
noncomputable def ahe : Env := (Wd.add 187 ahd).add 188 (ao N3)
theorem Ju : ahe.Good := (jz.add Vy).add yI
noncomputable def wE : Code := bd f80
noncomputable def EK : Code := cL (cL (cR (cL (cR (cR wE)))))
noncomputable def Cm : Code := cL (cL (cR (cL (cR (cR (cR (cR (cR wE))))))))
noncomputable def cZ : Cfg := ⟨65, 7, 0, [(4, [1, 2, 4, 17, 18, 19]), (13, [2, 4, 8, 38, 39, 40])], true⟩
noncomputable def ahf : FnE := au ahe f131 4 []
theorem Vz : bg 131 ahf := bD Ju func131 call131
noncomputable def hU : Env := ((We.add 131 ahf).add 75 (ao vfF)).add 133 ab5
theorem Jv : hU.Good := ((l5.add Vz).add yS).add G0
def OM (v : Vw) (q : af) : LHp := [(0, .box (.d (Y0) v)), (1, .box ((I 0).pr (AV.nils.pr (AV.nils.pr (AV.d Ty.unit PUnit.unit))))), (2, .arr 3 aa 0 false q)]
def ue (v : Vw) (p q : af) (i : Int) : LSt := { fr := aw 7 [(1, .d (.slice aa) p), (2, .op 0 [] 0), (4, .op 1 [] 0), (17, .os 2 0), (18, I (Int.ofNat q.length)), (19, I i)], hp := OM v q, nx := 3 }
theorem acy (off : Int) (ds ss p : af) : aC hU f80 7 [(4, [1, 2, 4, 17, 18, 19]), (13, [2, 4, 8, 38, 39, 40])] [.d (Y0) (off, ds, ss, ()), .d (.slice aa) p] [] ah = bif mR (off, ds, ss, PUnit.unit) then bif !gC (off, ds, ss, PUnit.unit) then az [(I 0).pr (AV.nils.pr (AV.nils.pr (AV.d Ty.unit PUnit.unit))), I 1] else bif decide (p.length <= 2147483648) then bif decide (p.length <= 2147483648) then (hlp hU cZ) EK _ (ue (off, ds, ss, ()) p (eR p) 0) (aQ 0 (aX hU cZ [4, 13] (hlp hU cZ) (cR (cR (cR wE))) (aZ prog 0 f80.results.toList ah))) else none else none else none := (bq [4, 13] cZ rfl).trans (by obtain ⟨hl, h⟩ := bc hU cZ; rw [h]; kernel_rfl)
noncomputable def ON (hl : Hl) : AEx -> LSt -> Option (aq × LHp) := aQ 0 (aX hU cZ [4, 13] hl (cR (cR (cR wE))) (aZ prog 0 f80.results.toList ah))
noncomputable def Jw : AEx -> LSt -> Option (aq × LHp) := ON (hlp hU cZ)
theorem OO (off : Int) (ds ss p q : af) (i : Int) (n : Nat) {R : Type} (k : AEx -> LSt -> Option R) : lp hU cZ EK (n + 1) (ue (off, ds, ss, ()) p q i) k = bif decide (i < Int.ofNat q.length) then (idx q i).bind fun v1 => (q[i.toNat]?).bind fun v2 => bif v2 != i then k AEx.ret { fr := aw 7 [(1, AV.d (aa).slice p), (2, AV.op 0 [] 0), (4, AV.op 1 [] 0), (5, I 4), (6, I i), (7, I v2), (17, AV.os 2 0), (18, I (Int.ofNat q.length)), (19, I i), (20, B true), (21, I i), (22, AV.oe 2 0 i.toNat), (23, I v2), (24, I v2), (25, I i), (26, B true), (27, (I 0).pr (AV.nils.pr (AV.nils.pr (AV.d Ty.unit PUnit.unit))))], hp := [(1, aj.box ((I 0).pr (AV.nils.pr (AV.nils.pr (AV.d Ty.unit PUnit.unit))))), (0, aj.box (AV.d Y0 (off, ds, ss, PUnit.unit))), (1, aj.box ((I 0).pr (AV.nils.pr (AV.nils.pr (AV.d Ty.unit PUnit.unit))))), (2, aj.arr 3 (aa) 0 false q)], nx := 3 } else lp hU cZ EK n (ue (off, ds, ss, ()) p q (i64.wrap (i + 1))) k else k (AEx.exit 0) { fr := aw 7 [(1, AV.d (aa).slice p), (2, AV.op 0 [] 0), (4, AV.op 1 [] 0), (17, AV.os 2 0), (18, I (Int.ofNat q.length)), (19, I i), (20, B false)], hp := [(0, aj.box (AV.d Y0 (off, ds, ss, PUnit.unit))), (1, aj.box ((I 0).pr (AV.nils.pr (AV.nils.pr (AV.d Ty.unit PUnit.unit))))), (2, aj.arr 3 (aa) 0 false q)], nx := 3 } := by kernel_rfl
theorem acz (hl : Hl) (off : Int) (ds ss p q : af) (i : Int) : ON hl (.exit 0) { fr := aw 7 [(1, .d (.slice aa) p), (2, .op 0 [] 0), (4, .op 1 [] 0), (17, .os 2 0), (18, I (Int.ofNat q.length)), (19, I i), (20, B false)], hp := OM (off, ds, ss, ()) q, nx := 3 } = bif Int.ofNat p.length != Int.ofNat ds.length then az [(I 0).pr (AV.nils.pr (AV.nils.pr (AV.d Ty.unit PUnit.unit))), I 4] else bif decide (ds.length <= 2147483648) then bif decide (ss.length <= 2147483648) then hl Cm _ { fr := aw 7 [(2, AV.op 0 [] 0), (4, AV.op 1 [] 0), (8, AV.op 2 [] 0), (38, AV.d (aa).slice p), (39, I (Int.ofNat p.length)), (40, I 0)], hp := [(0, aj.box (AV.d Y0 (off, ds, ss, PUnit.unit))), (1, aj.box ((I 0).pr (AV.nils.pr (AV.nils.pr (AV.d Ty.unit PUnit.unit))))), (2, aj.box ((I off).pr ((AV.os 3 0).pr ((AV.os 4 0).pr (AV.d Ty.unit PUnit.unit))))), (3, aj.arr 3 (aa) 0 false ds), (4, aj.arr 3 (aa) 0 false ss)], nx := 5 } (aQ 2 (aX hU cZ [4, 13] hl (cR (cR (cR (cR (cR (cR wE)))))) (aZ prog 0 f80.results.toList ah))) else none else none := by kernel_rfl
noncomputable def EL : AEx -> LSt -> Option (aq × LHp) := (aQ 2 (aX hU cZ [4, 13] (hlp hU cZ) (cR (cR (cR (cR (cR (cR wE)))))) (aZ prog 0 f80.results.toList ah)))
def wF (v : Vw) (p D S : af) (i : Int) : LSt := { fr := aw 7 [(2, .op 0 [] 0), (4, .op 1 [] 0), (8, .op 2 [] 0), (38, .d (.slice aa) p), (39, I (Int.ofNat p.length)), (40, I i)], hp := [(0, .box (.d (Y0) v)), (1, .box ((I 0).pr (AV.nils.pr (AV.nils.pr (AV.d Ty.unit PUnit.unit))))), (2, .box ((I v.1).pr ((AV.os 3 0).pr ((AV.os 4 0).pr (AV.d Ty.unit PUnit.unit))))), (3, .arr 3 aa 0 false D), (4, .arr 3 aa 0 false S)], nx := 5 }
theorem OP (off : Int) (ds ss p D S : af) (i : Int) (n : Nat) : lp hU cZ Cm (n + 1) (wF (off, ds, ss, ()) p D S i) EL = bif decide (i < Int.ofNat p.length) then (idx p i).bind fun v1 => (idx ds v1).bind fun v2 => (idx ss v1).bind fun v3 => (idx D i).bind fun v4 => (fv D i.toNat v2).bind fun v5 => (idx S i).bind fun v6 => (fv S i.toNat v3).bind fun v7 => lp hU cZ Cm n { fr := aw 7 [(2, AV.op 0 [] 0), (4, AV.op 1 [] 0), (8, AV.op 2 [] 0), (38, AV.d (aa).slice p), (39, I (Int.ofNat p.length)), (40, I (i64.wrap (i + 1)))], hp := [(0, aj.box (AV.d Y0 (off, ds, ss, PUnit.unit))), (1, aj.box ((I 0).pr (AV.nils.pr (AV.nils.pr (AV.d Ty.unit PUnit.unit))))), (2, aj.box ((I off).pr ((AV.os 3 0).pr ((AV.os 4 0).pr (AV.d Ty.unit PUnit.unit))))), (3, aj.arr 3 (aa) 0 false v5), (4, aj.arr 3 (aa) 0 false v7)], nx := 5 } EL else some (aq.ret [(I off).pr ((AV.os 0 0).pr ((AV.os 1 0).pr (AV.d Ty.unit PUnit.unit))), I 0], [(0, aj.arr 3 (aa) 0 false D), (1, aj.arr 3 (aa) 0 false S)]) := by kernel_rfl
theorem acA (hl : Hl) (off : Int) (ds ss p q : af) (i x : Int) : ON hl .ret { fr := aw 7 [(1, AV.d (aa).slice p), (2, AV.op 0 [] 0), (4, AV.op 1 [] 0), (5, I 4), (6, I i), (7, I x), (17, AV.os 2 0), (18, I (Int.ofNat q.length)), (19, I i), (20, B true), (21, I i), (22, AV.oe 2 0 i.toNat), (23, I x), (24, I x), (25, I i), (26, B true), (27, (I 0).pr (AV.nils.pr (AV.nils.pr (AV.d Ty.unit PUnit.unit))))], hp := (1, .box ((I 0).pr (AV.nils.pr (AV.nils.pr (AV.d Ty.unit PUnit.unit))))) :: OM (off, ds, ss, ()) q, nx := 3 } = az [(I 0).pr (AV.nils.pr (AV.nils.pr (AV.d Ty.unit PUnit.unit))), I 4] := by kernel_rfl
theorem pe {R A α : Type} {g : A -> α -> A} {fin : A -> Option R} : ∀ (l : List α) (a : A), cg (fun a x => Nx.go (g a x)) fin l a = fin (l.foldl g a)
 | [], _ => rfl
 | x :: l, a => pe l (g a x)
theorem rD {α : Type} {xs : List α} {i : Nat} {y : α} (h : i < xs.length) : fv xs i y = some (xs.set i y) := by
 unfold fv
 rw [show Nat.blt i xs.length = true from Nat.ble_eq_true_of_le h, ai]
theorem fN {xs : af} {x : Int} (h0 : 0 <= x) (h1 : x < (xs.length : Int)) : idx xs x = some (xs.getD x.toNat 0) := by
 unfold idx
 rw [if_pos h0, List.getD_eq_getElem?_getD, List.getElem?_eq_getElem (by omega)]
 rfl
theorem mS {α : Type} {xs : List α} {i : Nat} (h : i < xs.length) : ∃ v, idx xs (i : Int) = some v := ⟨xs[i], by unfold idx; rw [if_pos (by omega), Int.toNat_natCast, List.getElem?_eq_getElem h]⟩
def vtG (ds ss : af) (a : Nat × af × af) (x : Int) : Nat × af × af := (a.1 + 1, a.2.1.set a.1 (ds.getD x.toNat 0), a.2.2.set a.1 (ss.getD x.toNat 0))
def vtW (ds ss p : af) : Nat × af × af := p.foldl (vtG ds ss) (0, ds, ss)
theorem G7 {ds ss : af} : ∀ (p : af) (a : Nat × af × af), (p.foldl (vtG ds ss) a).2.1.length = a.2.1.length /\ (p.foldl (vtG ds ss) a).2.2.length = a.2.2.length
 | [], _ => ⟨rfl, rfl⟩
 | x :: p, a => by
  have h := G7 (ds := ds) (ss := ss) p (vtG ds ss a x)
  rw [List.foldl_cons]
  exact ⟨h.1.trans (List.length_set), h.2.trans (List.length_set)⟩
def vtA (off : Int) (D S : af) : Option (aq × LHp) := some (aq.ret [(I off).pr ((AV.os 0 0).pr ((AV.os 1 0).pr (AV.d Ty.unit PUnit.unit))), I 0], [(0, aj.arr 3 (aa) 0 false D), (1, aj.arr 3 (aa) 0 false S)])
def yX (c : Int) : Option (aq × LHp) := some (aq.ret [(I 0).pr (AV.nils.pr (AV.nils.pr (AV.d Ty.unit PUnit.unit))), I c], [])
theorem acB {off : Int} {ds ss p : af} (hl : p.length <= 2147483648) (h1 : p.length = ds.length) (h2 : ss.length = ds.length) (hp : ∀ x ∈ p, 0 <= x /\ x < (p.length : Int)) :
  lp hU cZ Cm fu (wF (off, ds, ss, ()) p ds ss 0) EL = vtA off (vtW ds ss p).2.1 (vtW ds ss p).2.2 := by
 have hm : maxLen = 9223372036854775807 := by decide
 refine (cq (xs := p) (T := fun m s => lp hU cZ Cm m s EL) (st := fun (i : Int) (a : Nat × af × af) => wF (off, ds, ss, ()) p a.2.1 a.2.2 i) (f := fun a x => Nx.go (vtG ds ss a x)) (fin := fun a => vtA off a.2.1 a.2.2) (fun (i : Nat) (a : Nat × af × af) => a.1 = i /\ a.2.1.length = ds.length /\ a.2.2.length = ds.length) (by omega) ?_ ?_ (a := (0, ds, ss)) ⟨rfl, rfl, h2⟩).trans (pe p (0, ds, ss))
 ·rintro i ⟨j, D, S⟩ x m ⟨rfl, hD, hS⟩ hi gx gi hw hd
  have hD : D.length = ds.length := hD
  have hS : S.length = ds.length := hS
  have hx := hp x (List.mem_of_getElem? gx)
  obtain ⟨v, hv⟩ := mS (xs := D) (i := j) (by omega)
  obtain ⟨w, hw2⟩ := mS (xs := S) (i := j) (by omega)
  have hs := OP off ds ss p D S (j : Int) m
  rw [hd, ai, gi, aB, fN hx.1 (by omega), aB, fN hx.1 (by omega), aB, hv, aB, Int.toNat_natCast, rD (by omega), aB, hw2, aB, rD (by omega), aB, hw] at hs
  exact .inl ⟨_, rfl, ⟨rfl, (List.length_set).trans hD, (List.length_set).trans hS⟩, hs⟩
 ·rintro ⟨j, D, S⟩ m hI hd
  have hs := OP off ds ss p D S (p.length : Int) m
  rw [hd, ax] at hs
  exact hs
def u0 : List Int -> Nat -> Bool
 | [], _ => true
 | x :: r, i => bif x != (i : Int) then false else u0 r (i + 1)
theorem Cn : ∀ (q : af) (i : Nat), u0 q i = true -> ∀ x ∈ q, (i : Int) <= x /\ x < ((i + q.length : Nat) : Int)
 | [], _, _, x, hx => by cases hx
 | y :: q, i, h, x, hx => by
  rw [u0] at h
  cases hc : y != (i : Int) with
  | true => rw [hc] at h; cases h
  | false =>
   rw [hc, ax] at h
   have e : y = (i : Int) := by simpa using hc
   simp only [List.length_cons]
   rcases List.mem_cons.1 hx with rfl | hx
   ·omega
   ·have := Cn q (i + 1) h x hx
    omega
def vtN (i : Nat) (x : Int) : Nx Nat (aq × LHp) := bif x != (i : Int) then .stop (yX 4) else .go (i + 1)
theorem Co {r : Option (aq × LHp)} : ∀ (q : af) (i : Nat), cg vtN (fun _ => r) q i = bif u0 q i then r else yX 4
 | [], _ => rfl
 | x :: q, i => by
  have e : vtN i x = bif x != (i : Int) then .stop (yX 4) else .go (i + 1) := rfl
  rw [cg, u0, e]
  cases x != (i : Int) with
  | true => rfl
  | false => exact Co q (i + 1)
noncomputable def OQ (off : Int) (ds ss p : af) : Option (aq × LHp) := bif Int.ofNat p.length != Int.ofNat ds.length then yX 4 else lp hU cZ Cm fu (wF (off, ds, ss, ()) p ds ss 0) EL
theorem ahh (off : Int) (ds ss p : af) : hlp hU cZ Cm (aq × LHp) (wF (off, ds, ss, ()) p ds ss 0) EL = lp hU cZ Cm fu (wF (off, ds, ss, ()) p ds ss 0) EL := rfl
theorem ahi (off : Int) (ds ss p q : af) : hlp hU cZ EK (aq × LHp) (ue (off, ds, ss, ()) p q 0) Jw = lp hU cZ EK fu (ue (off, ds, ss, ()) p q 0) Jw := rfl
theorem acC {off : Int} {ds ss p q : af} (hl : q.length <= 2147483648) (E2 : ds.length <= 2147483648) (J7 : ss.length <= 2147483648) :
  lp hU cZ EK fu (ue (off, ds, ss, ()) p q 0) Jw = bif u0 q 0 then OQ off ds ss p else yX 4 := by
 have hm : maxLen = 9223372036854775807 := by decide
 refine (cq (xs := q) (T := fun m s => lp hU cZ EK m s Jw) (st := fun (i : Int) (_ : Nat) => ue (off, ds, ss, ()) p q i) (f := vtN) (fin := fun _ => OQ off ds ss p) (fun (i : Nat) (a : Nat) => a = i) (by omega) ?_ ?_ (a := 0) rfl).trans (Co q 0)
 ·rintro i a x m rfl hi gx gi hw hd
  have hs := OO off ds ss p q (a : Int) m Jw
  have e : vtN a x = bif x != (a : Int) then .stop (yX 4) else .go (a + 1) := rfl
  rw [hd, ai, gi, aB, Int.toNat_natCast, gx, aB, hw] at hs
  cases h : x != (a : Int) with
  | true =>
   rw [h, ai] at hs e
   exact .inr ⟨_, e, hs.trans (acA _ off ds ss p q (a : Int) x)⟩
  | false =>
   rw [h, ax] at hs e
   exact .inl ⟨_, e, rfl, hs⟩
 ·intro a m hI hd
  have hs := OO off ds ss p q (q.length : Int) m Jw
  rw [hd, ax] at hs
  refine hs.trans ((acz _ off ds ss p q (q.length : Int)).trans ?_)
  unfold OQ
  rw [aD E2, aD J7, ai, ai]
  cases Int.ofNat p.length != Int.ofNat ds.length with
  | true => rfl
  | false => rw [ax, ax]; exact ahh off ds ss p
def vtC (v : Vw) (p : af) : Int := bif !gC v then 1 else bif !u0 (eR p) 0 then 4 else bif Int.ofNat p.length != Int.ofNat (List.length v.2.1) then 4 else 0
def OR (v : Vw) (p : af) : Vw := bif vtC v p == 0 then (v.1, (vtW v.2.1 v.2.2.1 p).2.1, (vtW v.2.1 v.2.2.1 p).2.2, ()) else (0, [], [], ())
def vtF : List AV -> LHp -> Tq
 | [.d Y0 v, .d zS p], [] => .br (mR v && decide (p.length <= 2147483648)) (.leaf (.ret [.d (Y0) (OR v p), I (vtC v p)]) []) .no
 | _, _ => .no
theorem acD {v : Vw} {p : af} (hv : mR v = true) (hp : p.length <= 2147483648) : gW [(Y0), aa] (aC hU f80 7 [(4, [1, 2, 4, 17, 18, 19]), (13, [2, 4, 8, 38, 39, 40])] [.d (Y0) v, .d (.slice aa) p] [] ah) = some (.ret [.d (Y0) (OR v p), I (vtC v p)], []) := by
 obtain ⟨off, ds, ss, u⟩ := v
 have h1 := (aU hv).1
 have h2 := (aU hv).2
 have h1 : ds.length <= 2147483648 := h1
 have h2 : ss.length <= 2147483648 := h2
 have PD : (eR p).length = p.length := List.length_mergeSort _
 have e := acy off ds ss p
 rw [show mR (off, ds, ss, PUnit.unit) = true from hv, ai, aD hp, ai, ai] at e
 show gW _ (aC hU f80 7 [(4, [1, 2, 4, 17, 18, 19]), (13, [2, 4, 8, 38, 39, 40])] [.d (Y0) (off, ds, ss, ()), .d (.slice aa) p] [] ah) = _
 have eC : vtC (off, ds, ss, u) p = bif !gC (off, ds, ss, PUnit.unit) then 1 else bif !u0 (eR p) 0 then 4 else bif Int.ofNat p.length != Int.ofNat ds.length then 4 else 0 := rfl
 unfold OR
 rw [eC]
 cases hf : gC (off, ds, ss, PUnit.unit) with
 | false => rw [hf] at e; rw [e]; rfl
 | true =>
  rw [hf, Bool.not_true, ax] at e
  have e2 : aC hU f80 7 [(4, [1, 2, 4, 17, 18, 19]), (13, [2, 4, 8, 38, 39, 40])] [.d (Y0) (off, ds, ss, ()), .d (.slice aa) p] [] ah = bif u0 (eR p) 0 then OQ off ds ss p else yX 4 := e.trans ((ahi off ds ss p (eR p)).trans (acC (by omega) h1 h2))
  rw [e2]
  obtain ⟨c1, c2, _⟩ := pc hf
  cases hk : u0 (eR p) 0 with
  | false => rfl
  | true =>
   rw [ai]
   unfold OQ
   cases hq : Int.ofNat p.length != Int.ofNat ds.length with
   | true => rfl
   | false =>
    have Hs : p.length = ds.length := by
     have := nz (show decide (Int.ofNat p.length ≠ Int.ofNat ds.length) = false by simpa using hq)
     simp only [aK] at this
     omega
    rw [ax, acB hp Hs c2 fun x hx => by
     have := Cn _ 0 hk x (List.mem_mergeSort.2 hx)
     rw [PD] at this
     omega]
    rfl
theorem acE : bg 80 (ao vtF) := by
 have h1 := bD (d := 7) (l := [(4, [1, 2, 4, 17, 18, 19]), (13, [2, 4, 8, 38, 39, 40])]) Jv func80 call80
 refine aO fun args hs ae aH h' => ?_
 unfold vtF at h'
 split at h'
 ·obtain ⟨hb, h2⟩ := Tq.br_no h'
  rw [ba] at hb
  exact h1.okBQ [(Y0), aa] ((acD hb.1 (aU hb.2)).trans h2)
 ·cases h'
noncomputable def vtE : FnE := b8 [(Y0), .slice aa] (ao vtF)
theorem acF : bg 80 vtE := bf acE
theorem G8 {v : Vw} {p : af} (hv : mR v = true) : mR (OR v p) = true := by
 unfold OR
 cases vtC v p == 0 with
 | false => rfl
 | true =>
  have h := G7 (ds := v.2.1) (ss := v.2.2.1) p (0, v.2.1, v.2.2.1)
  exact aD ⟨h.1 ▸ (aU hv).1, h.2 ▸ (aU hv).2⟩
noncomputable def uf : Code := bd f44
noncomputable def yY : Code := cL (cL (cR (cL (cR (cR uf)))))
noncomputable def u4 : Code := cL (cL (cR (cL (cR (cR (cR (cR uf)))))))
noncomputable def ch : Cfg := ⟨46, 6, 0, [(3, [2, 3, 5, 14, 15]), (9, [3, 7, 25, 26, 27])], true⟩
noncomputable def gu : Env := (((We.add 25 uT).add 80 vtE).add 42 Vi).add 43 Vr
theorem Jx : gu.Good := (((l5.add iX).add acF).add yT).add yU
def Cp (n : ek) (t : b9) : LHp := [(0, .box (.d (Y2) n)), (1, .box (.d (Y0) t))]
def wG (n : ek) (t : b9) (l i : Int) : LSt := { fr := aw 6 [(2, .op 0 [] 0), (3, .op 1 [] 0), (5, .nils), (14, I l), (15, I i)], hp := Cp n t, nx := 2 }
theorem acG (op nm : ak) (ins : List (ak)) (out : ak) (ag : bn) (t : Int) (d x : af) : aC gu f44 6 [(3, [2, 3, 5, 14, 15]), (9, [3, 7, 25, 26, 27])] [cO op nm ins out ag, .d (Y0) (t, d, x, ())] [] ah = (hlp gu ch) yY _ (wG (op, nm, ins, out, ag, ()) (t, d, x, ()) (Int.ofNat d.length) 0) (aQ 0 (aX gu ch [3, 9] (hlp gu ch) (cR (cR (cR uf))) (aZ prog 0 f44.results.toList ah))) := (bq [3, 9] ch rfl).trans (by obtain ⟨hl, h⟩ := bc gu ch; rw [h]; kernel_rfl)
def G9 (n : ek) (t : b9) (o : af) (l i : Int) : LSt := { fr := aw 6 [(2, .op 0 [] 0), (3, .op 1 [] 0), (5, .os 2 0), (14, I l), (15, I i)], hp := Cp n t ++ [(2, .arr 2 aa 0 false o)], nx := 3 }
noncomputable def OS (hl : Hl) : AEx -> LSt -> Option (aq × LHp) := aQ 0 (aX gu ch [3, 9] hl (cR (cR (cR uf))) (aZ prog 0 f44.results.toList ah))
noncomputable def Cq : AEx -> LSt -> Option (aq × LHp) := OS (hlp gu ch)
theorem OT (y : ek) (t : b9) (l i : Int) (n : Nat) {R : Type} (k : AEx -> LSt -> Option R) : lp gu ch yY (n + 1) (wG y t l i) k = bif decide (i < l) then lp gu ch yY n (G9 y t [i] l (i64.wrap (i + 1))) k else k (AEx.exit 0) { fr := aw 6 [(2, AV.op 0 [] 0), (3, AV.op 1 [] 0), (5, AV.nils), (14, I l), (15, I i), (16, B false)], hp := [(0, aj.box (AV.d Y2 y)), (1, aj.box (AV.d Y0 t))], nx := 2 } := by kernel_rfl
theorem OU (y : ek) (t : b9) (v : Int) (o : af) (l i : Int) (n : Nat) {R : Type} (k : AEx -> LSt -> Option R) : lp gu ch yY (n + 1) (G9 y t (v :: o) l i) k = bif decide (i < l) then (app [i] (v :: o)).bind fun v1 => lp gu ch yY n (G9 y t v1 l (i64.wrap (i + 1))) k else k (AEx.exit 0) { fr := aw 6 [(2, AV.op 0 [] 0), (3, AV.op 1 [] 0), (5, AV.os 2 0), (14, I l), (15, I i), (16, B false)], hp := [(0, aj.box (AV.d Y2 y)), (1, aj.box (AV.d Y0 t)), (2, aj.arr 2 (aa) 0 false (v :: o))], nx := 3 } := by kernel_rfl
def ug (t : b9) (l : af) (i : Int) : LSt := { fr := aw 6 [(3, .op 0 [] 0), (7, .nils), (25, .d (.slice aa) l), (26, I (Int.ofNat l.length)), (27, I i)], hp := [(0, .box (.d (Y0) t))], nx := 1 }
theorem acH (hl : Hl) (op nm : ak) (ins : List (ak)) (out : ak) (ag : bn) (t : b9) (l i : Int) : OS hl (.exit 0) { fr := aw 6 [(2, .op 0 [] 0), (3, .op 1 [] 0), (5, .nils), (14, I l), (15, I i), (16, B false)], hp := Cp (op, nm, ins, out, ag, ()) t, nx := 2 } = bif aF ag then hl u4 _ (ug t (al ag xQ []) 0) (aQ 2 (aX gu ch [3, 9] hl (cR (cR (cR (cR (cR uf))))) (aZ prog 0 f44.results.toList ah))) else none := by kernel_rfl
theorem acI (hl : Hl) (op nm : ak) (ins : List (ak)) (out : ak) (ag : bn) (t : b9) (o : af) (l i : Int) : OS hl (.exit 0) { fr := aw 6 [(2, .op 0 [] 0), (3, .op 1 [] 0), (5, .os 2 0), (14, I l), (15, I i), (16, B false)], hp := Cp (op, nm, ins, out, ag, ()) t ++ [(2, .arr 2 aa 0 false o)], nx := 3 } = bif aF ag then bif decide (o.length <= 2147483648) then hl u4 _ (ug t (al ag xQ o) 0) (aQ 2 (aX gu ch [3, 9] hl (cR (cR (cR (cR (cR uf))))) (aZ prog 0 f44.results.toList ah))) else none else none := by kernel_rfl
noncomputable def Cr : AEx -> LSt -> Option (aq × LHp) := (aQ 2 (aX gu ch [3, 9] (hlp gu ch) (cR (cR (cR (cR (cR uf))))) (aZ prog 0 f44.results.toList ah)))
def Ha (t : b9) (l o : af) (i : Int) : LSt := { fr := aw 6 [(3, .op 0 [] 0), (7, .os 1 0), (25, .d (.slice aa) l), (26, I (Int.ofNat l.length)), (27, I i)], hp := [(0, .box (.d (Y0) t)), (1, .arr 3 aa 0 false o)], nx := 2 }
theorem OV (t : Int) (d x l : af) (i : Int) (n : Nat) : lp gu ch u4 (n + 1) (ug (t, d, x, ()) l i) Cr = bif decide (i < Int.ofNat l.length) then (idx l i).bind fun v1 => lp gu ch u4 n (Ha (t, d, x, ()) l [v1] (i64.wrap (i + 1))) Cr else bif decide (d.length <= 2147483648) then bif mR (uy d) && true then bif mR (OR (uy d) []) then az [AV.d (aa).slice (EH (OR (uy d) []) x)] else none else none else none := by kernel_rfl
theorem OW (t : Int) (d x l : af) (v : Int) (o : af) (i : Int) (n : Nat) : lp gu ch u4 (n + 1) (Ha (t, d, x, ()) l (v :: o) i) Cr = bif decide (i < Int.ofNat l.length) then (idx l i).bind fun v1 => (app (v :: o) [v1]).bind fun v2 => lp gu ch u4 n (Ha (t, d, x, ()) l v2 (i64.wrap (i + 1))) Cr else bif decide (d.length <= 2147483648) then bif mR (uy d) && decide ((v :: o).length <= 2147483648) then bif mR (OR (uy d) (v :: o)) then az [AV.d (aa).slice (EH (OR (uy d) (v :: o)) x)] else none else none else none := by kernel_rfl
theorem PV {p : Prop} (h : (4 : Int) = 0) : p := absurd h (by decide)
theorem no5 {p : Prop} (h : (5 : Int) = 0) : p := absurd h (by decide)
theorem qB {c : Int} (h : (c != 0) = false) : c = 0 := by simpa using h
theorem EM {ws : List (ak)} {ag : bn} (h : kE ws ag = 0) : Tf ws [] ag = 0 /\ ws.any (Zx ag) = false := by
 unfold kE at h
 cases hq : Tf ws [] ag != 0 with
 | true => rw [hq, ai] at h; rw [h] at hq; exact absurd hq (by decide)
 | false =>
  rw [hq, ax] at h
  refine ⟨qB hq, ?_⟩
  cases hw : ws.any (Zx ag) with
  | false => rfl
  | true => rw [hw] at h; exact absurd h (by decide)
theorem Jy {ws : List (ak)} {ag : bn} (h : kE ws ag = 0) {w : ak} (hw : w ∈ ws) (hs : fX (cm w) = true) : ∃ a ∈ ag, a.1 = fL w /\ ag.find? (ie (fL w) (dO (jB (cm w ++ [32]) 0))) = some a := by
 have h2 := (EM h).2
 rw [List.any_eq_false] at h2
 have h3 := h2 w hw
 unfold Zx at h3
 rw [hs, Bool.true_and] at h3
 cases hf : ag.find? (ie (fL w) (dO (jB (cm w ++ [32]) 0))) with
 | none => rw [hf] at h3; exact absurd rfl h3
 | some a =>
  have h5 := List.find?_some hf
  unfold ie at h5
  rw [ba] at h5
  exact ⟨a, List.mem_of_find?_eq_some hf, eq_of_beq h5.1, rfl⟩
structure ajG (op : List UInt8) (ins : List (List UInt8)) (ag : bn) : Prop where
 least : (cw op).1 <= (ins.length : Int)
 most : (ins.length : Int) <= (cw op).2.1
 attr : kE (eV (cw op).2.2.1) ag = 0
 const : tA op ag = 0
theorem uh {op : ak} {ins : List (ak)} {out : ak} {ag : bn} (h : BO op ins out ag = 0) : ajG op ins ag := by
 unfold BO at h
 cases h1 : !tz op with
 | true => rw [h1] at h; exact no5 h
 | false =>
  rw [h1, ax] at h
  cases h2 : decide (Int.ofNat ins.length < (cw op).1) with
  | true => rw [h2] at h; exact PV h
  | false =>
   rw [h2, ax] at h
   cases h3 : decide (Int.ofNat ins.length > (cw op).2.1) with
   | true => rw [h3] at h; exact PV h
   | false =>
    rw [h3, ax] at h
    cases h4 : out == [] with
    | true => rw [h4] at h; exact no5 h
    | false =>
     rw [h4, ax] at h
     cases h5 : ins.any (fun w => [] == w) with
     | true => rw [h5] at h; exact no5 h
     | false =>
      rw [h5, ax] at h
      cases h6 : kE (eV (cw op).2.2.1) ag != 0 with
      | true => rw [h6, ai] at h; rw [h] at h6; exact absurd h6 (by decide)
      | false =>
       rw [h6, ax] at h
       have e2 := nz h2
       have e3 := nz h3
       simp only [aK] at e2 e3
       refine ⟨by omega, by omega, qB h6, ?_⟩
       cases h7 : k8 ag with
       | true => rw [h7] at h; exact h
       | false =>
        rw [h7, ax] at h
        cases h8 : iW ag with
        | true => rw [h8] at h; exact PV h
        | false => rw [h8] at h; exact h
def ui (o : Option (Int × Int × ak × Unit)) : Prop := 1 <= (o.getD (1, 1, [], ())).1
theorem Jz {c : Bool} {a b : Option (Int × Int × ak × Unit)} (h1 : ui a) (h2 : ui b) : ui (bif c then a else b) := by
 cases c with
 | true => exact h1
 | false => exact h2
theorem nU {op : ak} (h : (op == dh) = false) : 1 <= (cw op).1 := by
 show ui (wc op)
 unfold wc
 unfold dh at h
 rw [h, ax]
 repeat' apply Jz
 all_goals (unfold ui; decide)
theorem JA {op : ak} {ag : bn} (h : (op == dh) = true) (h2 : kE (eV (cw op).2.2.1) ag = 0) : ∃ a, List.find? fM ag = some a := by
 obtain rfl := eq_of_beq h
 obtain ⟨a, h3, h4, _⟩ := Jy h2 (w := [118, 97, 108, 117, 101, 32, 116, 42]) (by decide +kernel) (by decide +kernel)
 cases hf : List.find? fM ag with
 | some b => exact ⟨b, rfl⟩
 | none =>
  exfalso
  rw [List.find?_eq_none] at hf
  refine hf a h3 ?_
  unfold fM
  rw [h4]
  decide +kernel
theorem eS {α : Type} {c : Bool} {a b : Option α} (h1 : c = true -> a.isSome = true) (h2 : c = false -> b.isSome = true) : (bif c then a else b).isSome = true := by
 cases c with
 | true => exact h1 rfl
 | false => exact h2 rfl
def OX : ak := qJ
def Cs : ak := oG
theorem OY {op : ak} {ag : bn} {vs : b5} (hN : vs.length <= 9223372036854775807) (hA : ag.length <= 9223372036854775807)
  (hc : (op == dh) = true -> ∃ a, List.find? fM ag = some a) (h1 : (op == dh) = false -> ∃ v, idx vs 0 = some v)
  (hw : (op == OX) = true -> ∃ v w, idx vs 1 = some v /\ idx vs 2 = some w) (hg : (op == Cs) = true -> ∃ v, idx vs 1 = some v) : yw op ag vs = true := by
 unfold yw Uj
 rw [Es]; simp only [cM, cr, yq, ld, yr, yu, yv]
 simp only [Uh, NR, NS, Ui, aaT, aaU]
 rw [aD hN, aD hA]
 unfold dh at hc h1
 cases fj : op == nO with
 | true =>
  obtain ⟨a, ha⟩ := hc fj
  rw [ai, ai, ha]
  rfl
 | false =>
  obtain ⟨v, hv⟩ := h1 fj
  rw [ax, hv, aB]
  simp only [ai]
  repeat' (first | (refine eS (fun hq => ?_) (fun _ => ?_)) | rfl)
  all_goals first
   | (obtain ⟨u, w, e1, e2⟩ := hw ‹(op == qJ) = true›
      rw [e1, e2]
      simp only [aB]
      repeat' (first | (refine eS (fun hq => ?_) (fun _ => ?_)) | rfl))
   | (obtain ⟨u, e1⟩ := hg ‹(op == oG) = true›
      rw [e1]
      simp only [aB]
      repeat' (first | (refine eS (fun hq => ?_) (fun _ => ?_)) | rfl))
def Ct (xs : af) (vr : b5) (i : Int) : LSt := { fr := aw 8 [(3, .d (.slice aa) xs), (132, .d (.slice (Y3)) vr), (133, I (Int.ofNat vr.length)), (134, I i)], hp := [], nx := 0 }
theorem ahk (xs : af) (vr : b5) (i : Int) (n : Nat) {R : Type} (k : AEx -> LSt -> Option R) : lp kd dX Ca (n + 1) (Ct xs vr i) k = bif decide (i < Int.ofNat vr.length) then (idx vr i).bind fun v1 => (if (0 : Int) <= 1 /\ (1 : Int) <= 2 /\ 2 <= Int.ofNat xs.length then some (List.drop 1 (List.take 2 xs)) else none).bind fun v2 => bif decide (List.length v1.2.2.1 <= 9223372036854775807) then bif !v1.2.2.1 == v2 then k (AEx.panic 131 4) { fr := aw 8 [(3, AV.d (aa).slice xs), (5, AV.op 0 [] 0), (132, AV.d Y3.slice vr), (133, I (Int.ofNat vr.length)), (134, I i), (135, B true), (136, AV.ip Y3 v1), (137, AV.d Y3 v1), (138, AV.op 0 [2] 2), (139, AV.d (aa).slice v1.2.2.1), (140, AV.d (aa).slice xs), (141, AV.d (aa).slice v2), (142, B (v1.2.2.1 == v2))], hp := [(0, aj.box (AV.d Y3 v1)), (0, aj.box ((AV.d Ty.str []).pr ((I 0).pr (AV.nils.pr (AV.d Ty.unit PUnit.unit)))))], nx := 1 } else lp kd dX Ca n (Ct xs vr (i64.wrap (i + 1))) k else none else k (AEx.exit 1) { fr := aw 8 [(3, AV.d (aa).slice xs), (132, AV.d Y3.slice vr), (133, I (Int.ofNat vr.length)), (134, I i), (135, B false)], hp := [], nx := 0 } := by kernel_rfl
noncomputable def KBn : AEx -> LSt -> Option (aq × LHp) := (aQ 1 (aX kd dX [56] (hlp kd dX) agM (aQ 0 (aX kd dX [56] (hlp kd dX) (cR (cR (cR (cR GS)))) (aZ prog 0 f105.results.toList ah)))))
theorem yZ (c : Bool) (a b : Option (aq × LHp)) : wx (bif c then a else b) = bif c then wx a else wx b := by cases c <;> rfl
theorem Cu {α : Type} (x : Option α) (f : α -> Option (aq × LHp)) : wx (x.bind f) = x.bind fun v => wx (f v) := by cases x <;> rfl
theorem Cv : wx none = none := rfl
theorem y4 (l : af) : wx (some (.ret [.d (.slice aa) l], [])) = some (0, l) := rfl
theorem Hb (l : af) : wx (some (.ret [.os 0 0], [(0, .arr 3 aa 0 false l)])) = some (0, l) := rfl
theorem y5 (c : Int) : wx (some (.panic 131 c, [])) = bif !(c == 0) then some (c, []) else none := by
 cases h : c == 0 with
 | true =>
  have := eq_of_beq h
  subst this
  rfl
 | false =>
  unfold wx
  have e : cK (.slice aa) (some (.panic 131 c, [])) = some (.panic 131 c, []) := rfl
  rw [e]
  show (bif Nat.beq _ _ && !(c == 0) then _ else _) = _
  rw [h]
  rfl
theorem rE (c : Int) (l : af) : (bif c == 0 then some ((0, l) : Int × af) else bif !(c == 0) then some (c, []) else none).isSome = true := by cases c == 0 <;> rfl
theorem y6 {k r : Int} (h : qR k r = true) (h0 : 0 <= r) (h1 : r <= 6) : 0 <= kF k r /\ kF k r < r := by
 unfold qR at h
 rw [ba] at h
 have a1 := aU h.1
 have a2 := aU h.2
 rw [aI (by omega) (by omega)] at a1
 unfold kF
 by_cases hk : k < 0
 ·rw [aD hk, ai, aI (by omega) (by omega)]
  omega
 ·rw [bU hk, ax]
  omega
theorem VA {n : ek} {vs : b5} {xs : af} (hA : aF n.2.2.2.2.1 = true) (hx : xs.length <= 6) (hv1 : 1 <= vs.length) (hv2 : vs.length <= 2147483648) (hax : (de n.2.2.2.2.1).length <= 2147483640) (hsh : (al n.2.2.2.2.1 [115, 104, 97, 112, 101] []).length <= 2147483648)
  (hg : (n.1 == Cs) = true -> ∃ v, idx vs 1 = some v /\ List.length v.2.2.1 <= 6) : WV n vs xs = true := by
 obtain ⟨op, nm, ins, out, ag, u⟩ := n
 have hA : aF ag = true := hA
 have hax : (de ag).length <= 2147483640 := hax
 have hsh : (al ag qK []).length <= 2147483648 := hsh
 have hg : (op == oG) = true -> ∃ v, idx vs 1 = some v /\ List.length v.2.2.1 <= 6 := hg
 have hlen := bM hA
 unfold WV Oa
 rw [show fD (op, nm, ins, out, ag, u) vs = fD (op, nm, ins, out, ag, ()) vs from rfl, yJ]
 simp only [yZ, Cu, Cv, y4, Hb, y5]
 rw [hA, aD (show xs.length <= 2147483648 by omega), aD hx, aD (show 1 <= vs.length /\ vs.length <= 2147483648 from ⟨hv1, hv2⟩), aD hax, aD (show ag.length <= 9223372036854775807 by omega), aD (show xs.length <= 2147483648 /\ (al ag qK []).length <= 2147483648 from ⟨by omega, hsh⟩)]
 simp only [ai]
 repeat' (first | rfl | exact rE _ _ | (refine eS (fun hq => ?_) (fun _ => ?_)))
 all_goals skip
 obtain ⟨v, e1, e2⟩ := hg ‹(op == oG) = true›
 have hK := ‹qR (aT ag cG 0) (Int.ofNat xs.length) = true›
 obtain ⟨d1, d2⟩ := y6 hK (Int.natCast_nonneg _) (by simp only [aK]; omega)
 have hl6 : Int.ofNat xs.length <= 6 := by simp only [aK]; omega
 rw [if_pos ⟨Int.le_refl _, d1, by omega⟩, aB, e1, aB, aI (by omega) (by omega), if_pos ⟨by omega, by omega, Int.le_refl _⟩, aB]
 rw [aD]
 ·rfl
 ·simp only [List.length_drop, List.length_take]
  omega
def bnK (xs : af) (vr : b5) : Bool := vr.all fun v => v.2.2.1 == List.drop 1 (List.take 2 xs)
def bnN (xs : af) (_ : Unit) (v : (Y3).den) : Nx Unit (aq × LHp) := bif !v.2.2.1 == List.drop 1 (List.take 2 xs) then .stop (some (.panic 131 4, [])) else .go ()
def bnE (xs : af) (b : Bool) : Option (aq × LHp) := bif b then some (.ret [.d (.slice aa) xs], []) else some (.panic 131 4, [])
theorem Hc (xs : af) : ∀ vr : b5, cg (bnN xs) (fun _ => bnE xs true) vr () = bnE xs (bnK xs vr)
 | [] => rfl
 | v :: vr => by
  rw [cg]
  have e : bnN xs () v = bif !v.2.2.1 == List.drop 1 (List.take 2 xs) then .stop (some (.panic 131 4, [])) else .go () := rfl
  have e2 : bnK xs (v :: vr) = ((v.2.2.1 == List.drop 1 (List.take 2 xs)) && bnK xs vr) := rfl
  rw [e, e2]
  cases v.2.2.1 == List.drop 1 (List.take 2 xs) with
  | true => exact Hc xs vr
  | false => rfl
theorem ahm {xs : af} {vr : b5} (hx : 2 <= xs.length) (hl : vr.length <= 2147483648) (hs : tO vr = true) : lp kd dX Ca fu (Ct xs vr 0) KBn = bnE xs (bnK xs vr) := by
 have hm : maxLen = 9223372036854775807 := by decide
 refine (cq (xs := vr) (T := fun m s => lp kd dX Ca m s KBn) (st := fun (i : Int) (_ : Unit) => Ct xs vr i) (f := bnN xs) (fin := fun _ => bnE xs true) (fun (_ : Nat) (_ : Unit) => True) (by omega) ?_ ?_ (a := ()) trivial).trans (Hc xs vr)
 ·intro i _ v m _ hi gx gi hw hd
  have e : bnN xs () v = bif !v.2.2.1 == List.drop 1 (List.take 2 xs) then .stop (some (.panic 131 4, [])) else .go () := rfl
  have hvl : List.length v.2.2.1 <= 2147483648 := aU (List.all_eq_true.1 hs v (List.mem_of_getElem? gx))
  have h := ahk xs vr (i : Int) m KBn
  rw [hd, ai, gi, aB, if_pos ⟨by decide, by decide, by simp only [aK]; omega⟩, aB, aD (show List.length v.2.2.1 <= 9223372036854775807 by omega), ai, hw] at h
  cases hq : !v.2.2.1 == List.drop 1 (List.take 2 xs) with
  | true =>
   rw [hq, ai] at h e
   exact .inr ⟨_, e, h.trans (by kernel_rfl)⟩
  | false =>
   rw [hq, ax] at h e
   exact .inl ⟨(), e, trivial, h⟩
 ·intro _ m _ hd
  show lp _ _ _ (m + 1) (Ct xs vr (vr.length : Int)) _ = _
  rw [ahk, hd, ax]
  kernel_rfl
theorem ajH (xs : af) (vr : b5) : hlp kd dX Ca (aq × LHp) (Ct xs vr 0) KBn = lp kd dX Ca fu (Ct xs vr 0) KBn := rfl
theorem acJ (xs : af) (b : Bool) : (wx (bnE xs b)).isSome = true := by cases b <;> rfl
theorem Hd {xs ys : af} (h : (dg xs ys == 0) = true) : (gr xs ys).length <= 6 := by
 have h := eq_of_beq h
 unfold dg at h
 unfold gr
 cases h1 : ay xs != 0 with
 | true => rw [h1, ai] at h; rw [h] at h1; exact absurd h1 (by decide)
 | false =>
  rw [h1, ax] at h
  cases h2 : ay ys != 0 with
  | true => rw [h2, ai] at h; rw [h] at h2; exact absurd h2 (by decide)
  | false =>
   rw [h2, ax] at h
   cases h3 : ux xs ys with
   | true => rw [ai]; exact Nat.zero_le _
   | false =>
    rw [h3, ax] at h
    rw [ax]
    cases h4 : PN xs ys with
    | true => rw [h4, ai] at h; exact PV h
    | false =>
     rw [h4, ax] at h
     exact (eQ h).2.1
theorem ahn {lo hi : Int} {l : af} (h : cJ 2 lo hi l = true) : ∃ a b, l = [a, b] /\ lo <= a /\ a <= hi /\ lo <= b /\ b <= hi := by
 have h1 := oZ h
 have h2 := yE h
 match l, h1, h2 with
 | [a, b], _, h2 =>
  have ha := h2 a (by simp)
  have hb := h2 b (by simp)
  exact ⟨a, b, rfl, ha.1, ha.2, hb.1, hb.2⟩
 | [], h1, _ => simp only [List.length_cons, List.length_nil, aK] at h1; omega
 | [_], h1, _ => simp only [List.length_cons, List.length_nil, aK] at h1; omega
 | _ :: _ :: _ :: l, h1, _ => simp only [List.length_cons, aK] at h1; omega
theorem ajI {lo hi : Int} {l : af} (h : cJ 4 lo hi l = true) : ∃ a b c d, l = [a, b, c, d] /\ lo <= a /\ a <= hi /\ lo <= b /\ b <= hi /\ lo <= c /\ c <= hi /\ lo <= d /\ d <= hi := by
 have h1 := oZ h
 have h2 := yE h
 match l, h1, h2 with
 | [a, b, c, d], _, h2 =>
  have ha := h2 a (by simp)
  have hb := h2 b (by simp)
  have hc := h2 c (by simp)
  have hd := h2 d (by simp)
  exact ⟨a, b, c, d, rfl, ha.1, ha.2, hb.1, hb.2, hc.1, hc.2, hd.1, hd.2⟩
 | [], h1, _ => simp only [List.length_cons, List.length_nil, aK] at h1; omega
 | [_], h1, _ => simp only [List.length_cons, List.length_nil, aK] at h1; omega
 | [_, _], h1, _ => simp only [List.length_cons, List.length_nil, aK] at h1; omega
 | [_, _, _], h1, _ => simp only [List.length_cons, List.length_nil, aK] at h1; omega
 | _ :: _ :: _ :: _ :: _ :: l, h1, _ => simp only [List.length_cons, aK] at h1; omega
theorem kO {ag : bn} (h : aF ag = true) (name : ak) {d : af} (hd : d.length <= 2147483648) : (al ag name d).length <= 2147483648 := by
 unfold al
 cases hf : ag.find? (ie name 7) with
 | none => exact hd
 | some a => exact (gN h (List.mem_of_find?_eq_some hf)).2.2
theorem wH {ag : bn} (hA : aF ag = true) (h w kh kw : Int) : (uW ag h w kh kw).isSome = true := by
 have hlen := bM hA
 have l1 := kO hA [115, 116, 114, 105, 100, 101, 115] (d := [1, 1]) (by decide)
 have l2 := kO hA [112, 97, 100, 115] (d := [0, 0, 0, 0]) (by decide)
 have l3 := kO hA [100, 105, 108, 97, 116, 105, 111, 110, 115] (d := [1, 1]) (by decide)
 unfold uW
 rw [aD (show ag.length <= 9223372036854775807 /\ (al ag kz [1, 1]).length <= 2147483648 from ⟨by omega, l1⟩),
  aD (show ag.length <= 9223372036854775807 /\ (al ag dq [0, 0, 0, 0]).length <= 2147483648 from ⟨by omega, l2⟩),
  aD (show ag.length <= 9223372036854775807 /\ (al ag kA [1, 1]).length <= 2147483648 from ⟨by omega, l3⟩)]
 simp only [ai]
 generalize al ag kz [1, 1] = S
 generalize al ag dq [0, 0, 0, 0] = P
 generalize al ag kA [1, 1] = D
 refine eS (fun hs => eS (fun hp => eS (fun hd => ?_) fun _ => rfl) fun _ => rfl) fun _ => rfl
 obtain ⟨s0, s1, rfl, z1, _, z2, _⟩ := ahn hs
 obtain ⟨p0, p1, p2, p3, rfl, _⟩ := ajI hp
 obtain ⟨d0, d1, rfl, _⟩ := ahn hd
 have q0 : ∀ v : Int, (if s0 = 0 then none else some v) = some v := fun v => if_neg (show ¬ s0 = 0 by omega)
 have q1 : ∀ v : Int, (if s1 = 0 then none else some v) = some v := fun v => if_neg (show ¬ s1 = 0 by omega)
 have a0 : idx [p0, p1, p2, p3] 0 = some p0 := rfl
 have a1 : idx [p0, p1, p2, p3] 1 = some p1 := rfl
 have a2 : idx [p0, p1, p2, p3] 2 = some p2 := rfl
 have a3 : idx [p0, p1, p2, p3] 3 = some p3 := rfl
 have b0 : [p0, p1, p2, p3][0]? = some p0 := rfl
 have b1 : [p0, p1, p2, p3][1]? = some p1 := rfl
 have b2 : [p0, p1, p2, p3][2]? = some p2 := rfl
 have b3 : [p0, p1, p2, p3][3]? = some p3 := rfl
 have c0 : idx [d0, d1] 0 = some d0 := rfl
 have c1 : idx [d0, d1] 1 = some d1 := rfl
 have c2 : [d0, d1][0]? = some d0 := rfl
 have c3 : [d0, d1][1]? = some d1 := rfl
 have e0 : idx [s0, s1] 0 = some s0 := rfl
 have e1 : idx [s0, s1] 1 = some s1 := rfl
 have e2 : [s0, s1][0]? = some s0 := rfl
 have e3 : [s0, s1][1]? = some s1 := rfl
 rw [a0, a1, a2, a3, b0, b1, b2, b3, c0, c1, c2, c3, e0, e1, e2, e3]
 simp only [aB, q0, q1]
 exact eS (fun _ => rfl) fun _ => eS (fun _ => rfl) fun _ => rfl
theorem fH {α : Type} {l : List α} {i : Nat} (h : i < l.length) : ∃ v, idx l (i : Int) = some v /\ v ∈ l := by
 refine ⟨l[i], ?_, List.getElem_mem h⟩
 unfold idx
 rw [if_pos (by omega), Int.toNat_natCast, List.getElem?_eq_getElem h]
def okS : Option (af ⊕ Int) -> Bool
 | some (.inl _) => true
 | some (.inr e) => !(e == 0)
 | none => false
theorem gb {c : Bool} {a b : Option (af ⊕ Int)} (h1 : c = true -> okS a = true) (h2 : c = false -> okS b = true) : okS (bif c then a else b) = true := by
 cases c with
 | true => exact h1 rfl
 | false => exact h2 rfl
theorem acK {ag : bn} {vs : b5} {xs : af} (hA : aF ag = true) (hV : ∀ v ∈ vs, List.length v.2.2.1 <= 6) (h2 : 2 <= vs.length) : okS (yo ag vs xs) = true := by
 have hlen := bM hA
 unfold yo
 obtain ⟨w, e1, _⟩ := fH (l := vs) (i := 1) (by omega)
 rw [show idx vs 1 = some w from e1, aB, aD (show ag.length <= 9223372036854775807 by omega), ai]
 refine gb (fun c1 => gb (fun c2 => gb (fun c3 => gb (fun _ => rfl) fun c4 => ?_) fun _ => rfl) fun _ => rfl) fun _ => rfl
 have c1 := eq_of_beq c1
 have c2 := eq_of_beq c2
 have c3 := aU c3
 simp only [aK] at c1 c2
 obtain ⟨x1, f1, _⟩ := fH (l := xs) (i := 1) (by omega)
 obtain ⟨x0, f0, _⟩ := fH (l := xs) (i := 0) (by omega)
 obtain ⟨k0, g0, _⟩ := fH (l := w.2.2.1) (i := 0) (by omega)
 obtain ⟨k1, g1, _⟩ := fH (l := w.2.2.1) (i := 1) (by omega)
 rw [show idx xs 1 = some x1 from f1, show idx xs 0 = some x0 from f0, show idx w.2.2.1 0 = some k0 from g0, show idx w.2.2.1 1 = some k1 from g1]
 simp only [aB, if_neg (show ¬ aT ag lZ 1 = 0 by omega)]
 have hd2 : (if (0 : Int) <= 2 /\ 2 <= Int.ofNat (List.length w.2.2.1) /\ Int.ofNat (List.length w.2.2.1) <= Int.ofNat (List.length w.2.2.1) then some (List.drop 2 (List.take (Int.ofNat (List.length w.2.2.1)).toNat w.2.2.1)) else none) = some (List.drop 2 w.2.2.1) := by
  rw [if_pos ⟨by decide, by simp only [aK]; omega, Int.le_refl _⟩, show (Int.ofNat (List.length w.2.2.1)).toNat = List.length w.2.2.1 from rfl, List.take_length]
 have hd1 : (if (0 : Int) <= 0 /\ (0 : Int) <= 1 /\ 1 <= Int.ofNat (List.length w.2.2.1) then some (List.drop 0 (List.take 1 w.2.2.1)) else none) = some (List.drop 0 (List.take 1 w.2.2.1)) := if_pos ⟨by decide, by decide, by simp only [aK]; omega⟩
 have hl : xs.length = 4 /\ (List.drop 2 w.2.2.1).length = 2 := ⟨by omega, by rw [List.length_drop]; omega⟩
 have hw : nR ag xs (List.drop 2 w.2.2.1) = true := wH hA _ _ _ _
 have hW : (gR ag xs (List.drop 2 w.2.2.1) == 0) = false -> okS (some (.inr (gR ag xs (List.drop 2 w.2.2.1)))) = true := fun h => by
  show (!(gR ag xs (List.drop 2 w.2.2.1) == 0)) = true
  rw [h]
  rfl
 refine gb (fun _ => gb (fun _ => gb (fun _ => rfl) fun _ => ?_) fun _ => rfl) fun _ => rfl
 rw [hd2, hd1]
 simp only [aB]
 rw [aD hl, hw]
 simp only [ai]
 refine gb (fun _ => gb (fun _ => rfl) hW) fun c5 => ?_
 have c5 := nz c5
 simp only [aK] at c5
 obtain ⟨u, e2, hu⟩ := fH (l := vs) (i := 2) (by omega)
 have hu6 := hV u hu
 rw [show idx vs 2 = some u from e2, aB, aD (show List.length u.2.2.1 <= 9223372036854775807 by omega), ai]
 exact gb (fun _ => rfl) fun _ => gb (fun _ => rfl) hW
theorem OZ {ag : bn} {vs : b5} {xs : af} (hA : aF ag = true) (hV : ∀ v ∈ vs, List.length v.2.2.1 <= 6) (h2 : 2 <= vs.length) : I3 ag vs xs = true /\ (I4 ag vs xs = false -> (I5 ag vs xs == 0) = false) := by
 have h := acK (xs := xs) hA hV h2
 unfold I3 I4 I5
 cases hq : yo ag vs xs with
 | none => rw [hq] at h; cases h
 | some r =>
  rw [hq] at h
  cases r with
  | inl l => exact ⟨rfl, fun h => by cases h⟩
  | inr e =>
   refine ⟨rfl, fun _ => ?_⟩
   have h : (!(e == 0)) = true := h
   show (e == 0) = false
   cases he : e == 0 with
   | false => rfl
   | true => rw [he] at h; cases h
theorem VB {n : ek} {vs : b5} (hA : aF n.2.2.2.2.1 = true) (hV : ∀ v ∈ vs, List.length v.2.2.1 <= 6) (hv2 : vs.length <= 2147483648) (hax : (de n.2.2.2.2.1).length <= 2147483640) (hsh : (al n.2.2.2.2.1 [115, 104, 97, 112, 101] []).length <= 2147483648)
  (hc : (n.1 == dh) = true -> ∃ a, List.find? fM n.2.2.2.2.1 = some a) (h2 : (cw n.1).1 <= (vs.length : Int)) : Oc n vs = true := by
 obtain ⟨op, nm, ins, out, ag, u⟩ := n
 have hA : aF ag = true := hA
 have hax : (de ag).length <= 2147483640 := hax
 have hsh : (al ag qK []).length <= 2147483648 := hsh
 have hc : (op == nO) = true -> ∃ a, List.find? fM ag = some a := hc
 have h2 : (cw op).1 <= (vs.length : Int) := h2
 have hlen := bM hA
 have hsv : tO vs = true := List.all_eq_true.2 fun v hv => aD (by have := hV v hv; omega)
 have two : ∀ {lit : ak}, (op == lit) = true -> 2 <= (cw lit).1 -> 2 <= vs.length := fun hq hr => by
  rw [← eq_of_beq hq] at hr
  omega
 have one : ∀ {lit : ak}, (op == lit) = true -> 2 <= (cw lit).1 -> ∃ v, idx vs 1 = some v /\ List.length v.2.2.1 <= 6 := fun hq hr => by
  obtain ⟨v, e, hv⟩ := fH (l := vs) (i := 1) (two hq hr)
  exact ⟨v, e, hV v hv⟩
 unfold Oc dmR
 rw [show fD (op, nm, ins, out, ag, u) vs = fD (op, nm, ins, out, ag, ()) vs from rfl, yL]; simp only [eZ, yK, o9, ef]
 cases fj : op == nO with
 | true =>
  obtain ⟨a, ha⟩ := hc fj
  rw [ai, ha, aD (show ag.length <= 9223372036854775807 by omega)]
  rfl
 | false =>
  have h1 : 1 <= vs.length := by
   have := nU fj
   omega
  obtain ⟨v, hv, hvm⟩ := fH (l := vs) (i := 0) (by omega)
  have hv6 := hV v hvm
  rw [ax, show idx vs 0 = some v from hv, aB]
  simp only [yZ, Cu, Cv, y4, Hb, y5]
  rw [hA, hsv, aD (show List.length v.2.2.1 <= 2147483648 by omega), aD (show ag.length <= 9223372036854775807 by omega)]
  have hmv : WV (op, nm, ins, out, ag, PUnit.unit) vs v.2.2.1 = true := VA hA hv6 h1 hv2 hax hsh fun hq => one hq (by decide +kernel)
  have hwn : nR ag v.2.2.1 (al ag iv []) = true := wH hA _ _ _ _
  rw [hmv, hwn]
  simp only [ai]
  have hcv : (op == AR) = true -> I3 ag vs v.2.2.1 = true /\ (I4 ag vs v.2.2.1 = false -> (I5 ag vs v.2.2.1 == 0) = false) := fun hq => OZ hA hV (two hq (by decide +kernel))
  have hd : ∀ w : (Y3).den, List.length w.2.2.1 <= 6 -> decide (List.length v.2.2.1 <= 2147483648 /\ List.length w.2.2.1 <= 2147483648) = true := fun w hw => aD ⟨by omega, by omega⟩
  repeat' (first | rfl | exact rE _ _ | (refine eS (fun hq => ?_) (fun _ => ?_)))
  all_goals first
   | (obtain ⟨w, e1, e2⟩ := one ‹(op == qJ) = true› (by decide +kernel)
      obtain ⟨z, f1, f2⟩ := fH (l := vs) (i := 2) (by
        have hq := ‹(op == qJ) = true›
        rw [eq_of_beq hq] at h2
        have h3 : (cw qJ).1 = 3 := by decide +kernel
        omega)
      rw [e1, aB, hd w e2, ai]
      rw [show idx vs 2 = some z from f1]
      refine eS (fun hs => ?_) fun hs => ?_
      ·have := Hd hs
       have := hV z f2
       rw [aB, aD ⟨by omega, by omega⟩, ai]
       exact rE _ _
      ·rw [aB, hs]
       rfl)
   | (obtain ⟨w, e1, e2⟩ := one ‹_› (by decide +kernel)
      rw [e1, aB, hd w e2, ai]
      exact rE _ _)
   | exact absurd (two ‹(op == Ih) = true› (by decide +kernel)) (nz ‹decide (2 <= vs.length) = false›)
   | (have h := (hcv ‹(op == AR) = true›).1
      rw [‹I3 ag vs v.2.2.1 = false›] at h
      cases h)
   | (have h := (hcv ‹(op == AR) = true›).2 ‹I4 ag vs v.2.2.1 = false›
      have g := ‹(!(I5 ag vs v.2.2.1 == 0)) = false›
      rw [h] at g
      cases g)
   | (have h := ‹(gR ag v.2.2.1 (al ag iv []) == 0) = false›
      have g := ‹(!(gR ag v.2.2.1 (al ag iv []) == 0)) = false›
      rw [h] at g
      cases g)
   | (have h := ‹(!Int.ofNat (List.length v.2.2.1) == 4) = false›
      have h4 : Int.ofNat (List.length v.2.2.1) = 4 := by simpa using h
      simp only [aK] at h4
      obtain ⟨x0, f0, _⟩ := fH (l := v.2.2.1) (i := 0) (by omega)
      obtain ⟨x1, f1, _⟩ := fH (l := v.2.2.1) (i := 1) (by omega)
      rw [show idx v.2.2.1 0 = some x0 from f0, aB, show idx v.2.2.1 1 = some x1 from f1]
      rfl)
   | (have h := ‹(!decide (Int.ofNat (List.length v.2.2.1) >= 2)) = false›
      have h4 : 2 <= List.length v.2.2.1 := by
        have h5 : decide (Int.ofNat (List.length v.2.2.1) >= 2) = true := by simpa using h
        have h5 := aU h5
        simp only [aK] at h5
        omega
      rw [if_pos ⟨by decide, by simp only [aK]; omega, Int.le_refl _⟩, aB, show (Int.ofNat vs.length).toNat = vs.length from rfl, List.take_length]
      have hr : wx (lp kd dX Ca fu (Ct v.2.2.1 (List.drop 1 vs) 0) KBn) = wx (bnE v.2.2.1 (bnK v.2.2.1 (List.drop 1 vs))) := congrArg wx (ahm h4 (by rw [List.length_drop]; omega) (List.all_eq_true.2 fun z hz => List.all_eq_true.1 hsv z (List.mem_of_mem_drop hz)))
      refine Eq.trans (congrArg Option.isSome (Eq.trans (congrArg wx (ajH v.2.2.1 (List.drop 1 vs))) hr)) (acJ _ _))
structure wI (n : ek) : Prop where
 ins : n.2.2.1.length <= 1048576
 shA : aF n.2.2.2.2.1 = true
 shT : l7 n.2.2.2.2.1 = true
 ints : ∀ a ∈ n.2.2.2.2.1, List.length a.2.2.2.2.2.2.1 <= 1048576
theorem EN {ag : bn} (h : ∀ a ∈ ag, List.length a.2.2.2.2.2.2.1 <= 1048576) (name : ak) : (al ag name []).length <= 1048576 := by
 unfold al
 cases hf : ag.find? (ie name 7) with
 | none => exact Nat.zero_le _
 | some a => exact h a (List.mem_of_find?_eq_some hf)
theorem uj : ∀ {vs : b5}, Cg vs = 0 -> ∀ v ∈ vs, bS v.2.1 0 = true /\ ay v.2.2.1 = 0
 | [], _, v, h => by cases h
 | w :: vs, h, v, hv => by
  rw [Cg] at h
  cases h1 : bS w.2.1 0 with
  | false => rw [h1] at h; exact no5 h
  | true =>
   rw [h1, Bool.not_true, ax] at h
   cases h2 : ay w.2.2.1 != 0 with
   | true => rw [h2, ai] at h; rw [h] at h2; exact absurd h2 (by decide)
   | false =>
    rw [h2, ax] at h
    rcases List.mem_cons.1 hv with rfl | hv
    ·exact ⟨h1, qB h2⟩
    ·exact uj h v hv
theorem VC {n : ek} {vs : b5} (hn : wI n) : PU n vs = true := by
 obtain ⟨op, nm, ins, out, ag, u⟩ := n
 have hA : aF ag = true := hn.shA
 have hT : l7 ag = true := hn.shT
 have hI : ins.length <= 1048576 := hn.ins
 have hL := fun name => EN (ag := ag) hn.ints name
 have hlen := bM hA
 unfold PU
 show ((decide (ins.length <= 2147483648) && (aF ag && l7 ag)) && (BO op ins out ag != 0 || (!(Int.ofNat vs.length == Int.ofNat ins.length) || (Cg vs != 0 || (yw op ag vs && (!(mZ op ag vs == 0) || Oc (op, nm, ins, out, ag, u) vs)))))) = true
 rw [aD (show ins.length <= 2147483648 by omega), hA, hT]
 cases c1 : BO op ins out ag != 0 with
 | true => rfl
 | false =>
  have hC := uh (qB c1)
  cases c2 : Int.ofNat vs.length == Int.ofNat ins.length with
  | false => rfl
  | true =>
   have e2 := eq_of_beq c2
   simp only [aK] at e2
   cases c3 : Cg vs != 0 with
   | true => rfl
   | false =>
    have hv := uj (qB c3)
    have hc : (op == dh) = true -> ∃ a, List.find? fM ag = some a := fun h => JA h hC.attr
    have h2 : (cw op).1 <= (vs.length : Int) := by have := hC.least; omega
    have ar : ∀ {lit : ak} (k : Nat), (op == lit) = true -> (k : Int) <= (cw lit).1 -> k <= vs.length := fun k hq hr => by
     rw [← eq_of_beq hq] at hr
     omega
    have ht : yw op ag vs = true := OY (by omega) (by omega) hc
     (fun h => by
      have := nU h
      obtain ⟨v, e, _⟩ := fH (l := vs) (i := 0) (by omega)
      exact ⟨v, e⟩)
     (fun h => by
      have := ar 3 h (by decide +kernel)
      obtain ⟨v, e, _⟩ := fH (l := vs) (i := 1) (by omega)
      obtain ⟨w, f, _⟩ := fH (l := vs) (i := 2) (by omega)
      exact ⟨v, w, e, f⟩)
     (fun h => by
      have := ar 2 h (by decide +kernel)
      obtain ⟨v, e, _⟩ := fH (l := vs) (i := 1) (by omega)
      exact ⟨v, e⟩)
    have hd : Oc (op, nm, ins, out, ag, u) vs = true := VB hA (fun v h => (eQ (hv v h).2).2.1) (by omega) (Nat.le_trans (hL du) (by decide)) (by have := hL [115, 104, 97, 112, 101]; exact Nat.le_trans this (by decide)) hc h2
    rw [ht, hd]
    simp
structure W5 (n : ek) (vs : b5) : Prop where
 ck : BO n.1 n.2.2.1 n.2.2.2.1 n.2.2.2.2.1 = 0
 len : vs.length = n.2.2.1.length
 vals : ∀ v ∈ vs, bS v.2.1 0 = true /\ ay v.2.2.1 = 0
 typ : mZ n.1 n.2.2.2.2.1 vs = 0
 dm : zm n vs = 0
 cnt : ay (p6 n vs) = 0
 thn : kc n.2.2.2.2.1 (pZ n.1 n.2.2.2.2.1 vs) = true
theorem acL {n : ek} {vs : b5} (h : Jn n vs = 0) : W5 n vs := by
 unfold Jn at h
 cases c1 : BO n.1 n.2.2.1 n.2.2.2.1 n.2.2.2.2.1 != 0 with
 | true => rw [c1, ai] at h; rw [h] at c1; exact absurd c1 (by decide)
 | false =>
  rw [c1, ax] at h
  cases c2 : Int.ofNat vs.length == Int.ofNat n.2.2.1.length with
  | false => rw [c2] at h; exact PV h
  | true =>
   rw [c2, Bool.not_true, ax] at h
   have e2 := eq_of_beq c2
   simp only [aK] at e2
   cases c3 : Cg vs != 0 with
   | true => rw [c3, ai] at h; rw [h] at c3; exact absurd c3 (by decide)
   | false =>
    rw [c3, ax] at h
    cases c4 : mZ n.1 n.2.2.2.2.1 vs == 0 with
    | false => rw [c4, ax] at h; rw [h] at c4; exact absurd c4 (by decide)
    | true =>
     rw [c4, ai] at h
     cases c5 : zm n vs == 0 with
     | false => rw [c5, ax] at h; rw [h] at c5; exact absurd c5 (by decide)
     | true =>
      rw [c5, ai] at h
      cases c6 : ay (p6 n vs) != 0 with
      | true => rw [c6, ai] at h; rw [h] at c6; exact absurd c6 (by decide)
      | false =>
       rw [c6, ax] at h
       cases c7 : kc n.2.2.2.2.1 (pZ n.1 n.2.2.2.2.1 vs) with
       | false => rw [c7] at h; exact PV h
       | true => exact ⟨qB c1, by omega, uj (qB c3), eq_of_beq c4, eq_of_beq c5, qB c6, c7⟩
theorem acM {n : ek} {vs : b5} (h : Jn n vs = 0) : Og n vs = (n.2.2.2.1, pZ n.1 n.2.2.2.2.1 vs, p6 n vs, ()) := by
 unfold Og
 rw [h]
 rfl
theorem y7 {d : af} (h : d.length <= 2147483648) : mR (uy d) = true := by
 unfold uy
 cases ay d != 0 with
 | true => rfl
 | false =>
  refine aD ⟨h, ?_⟩
  show (EE d).length <= 2147483648
  unfold EE
  rw [dC, Cl, List.length_map]
  exact h
def dnL (r : Nat) : af := (List.range r).foldl (fun o (i : Nat) => (i : Int) :: o) []
def Cw : ak := xQ
def mtU (d x l : af) : Option (aq × LHp) := some (aq.ret [AV.d (aa).slice (EH (OR (uy d) l) x)], [])
def ajJ (t : b9) (l : af) (i : Int) : List Int -> LSt
 | [] => ug t l i
 | v :: o => Ha t l (v :: o) i
theorem uk : ∀ (l o : af), l.foldl (fun o x => o ++ [x]) o = o ++ l
 | [], o => (List.append_nil o).symm
 | x :: l, o => by rw [List.foldl_cons, uk l, List.append_assoc]; rfl
theorem O0 {t : Int} {d x l : af} (E2 : d.length <= 2147483648) (hl : l.length <= 2147483648) : lp gu ch u4 fu (ug (t, d, x, ()) l 0) Cr = mtU d x l := by
 have hm : maxLen = 9223372036854775807 := by decide
 have hw := y7 E2
 have key := (cq (xs := l) (T := fun m s => lp gu ch u4 m s Cr) (st := fun (i : Int) (o : af) => ajJ (t, d, x, ()) l i o) (f := fun o y => Nx.go (o ++ [y])) (fin := fun o => mtU d x o) (fun (i : Nat) (o : af) => o.length = i) (by omega) ?_ ?_ (a := []) rfl).trans (pe l [])
 ·refine key.trans ?_
  rw [uk]
  rfl
 ·intro i o y m hI hi gx gi wR hd
  refine .inl ⟨o ++ [y], rfl, by rw [List.length_append, hI]; rfl, ?_⟩
  cases o with
  | nil =>
   have hs := OV t d x l (i : Int) m
   rw [hd, ai, gi, aB, wR] at hs
   exact hs
  | cons v o =>
   have j1 : (v :: o).length + [y].length <= lim := by rw [hI, List.length_singleton, show lim = 4294967296 from rfl]; omega
   have hs := OW t d x l v o (i : Int) m
   rw [hd, ai, gi, aB, wR, dI j1, aB] at hs
   exact hs
 ·intro o m hI hd
  cases o with
  | nil =>
   have hs := OV t d x l (l.length : Int) m
   rw [hd, ax, aD E2, hw, G8 hw] at hs
   exact hs
  | cons v o =>
   have hs := OW t d x l v o (l.length : Int) m
   rw [hd, ax, aD E2, hw, G8 hw, aD (show (v :: o).length <= 2147483648 by omega)] at hs
   exact hs
theorem W6 (t : Int) (d x l : af) : hlp gu ch u4 (aq × LHp) (ug (t, d, x, ()) l 0) Cr = lp gu ch u4 fu (ug (t, d, x, ()) l 0) Cr := rfl
def ajK (y : ek) (t : b9) (l i : Int) : List Int -> LSt
 | [] => wG y t l i
 | v :: o => G9 y t (v :: o) l i
theorem acN {op nm : ak} {ins : List (ak)} {out : ak} {ag : bn} {t : Int} {d x : af} (hA : aF ag = true) (E2 : d.length <= 2147483648) :
  lp gu ch yY fu (wG (op, nm, ins, out, ag, ()) (t, d, x, ()) (Int.ofNat d.length) 0) Cq = mtU d x (al ag Cw (dnL d.length)) := by
 have hm : maxLen = 9223372036854775807 := by decide
 refine (x6 (N := d.length) (T := fun m s => lp gu ch yY m s Cq) (st := fun (i : Int) (o : af) => ajK (op, nm, ins, out, ag, ()) (t, d, x, ()) (Int.ofNat d.length) i o) (f := fun o (i : Nat) => Nx.go ((i : Int) :: o)) (fin := fun o => mtU d x (al ag Cw o)) (fun (i : Nat) (o : af) => o.length = i) (by omega) ?_ ?_ (a := []) rfl).trans (pe _ [])
 ·intro i o m hI hi wR hd
  refine .inl ⟨(i : Int) :: o, rfl, by rw [List.length_cons, hI], ?_⟩
  cases o with
  | nil =>
   have hs := OT (op, nm, ins, out, ag, ()) (t, d, x, ()) (Int.ofNat d.length) (i : Int) m Cq
   rw [hd, ai, wR] at hs
   exact hs
  | cons v o =>
   have j1 : [(i : Int)].length + (v :: o).length <= lim := by rw [hI, List.length_singleton, show lim = 4294967296 from rfl]; omega
   have hs := OU (op, nm, ins, out, ag, ()) (t, d, x, ()) v o (Int.ofNat d.length) (i : Int) m Cq
   rw [hd, ai, wR, dI j1, aB] at hs
   exact hs
 ·intro o m hI hd
  cases o with
  | nil =>
   have hs := OT (op, nm, ins, out, ag, ()) (t, d, x, ()) (Int.ofNat d.length) (d.length : Int) m Cq
   rw [hd, ax] at hs
   refine hs.trans ((acH _ op nm ins out ag (t, d, x, ()) (Int.ofNat d.length) (d.length : Int)).trans ?_)
   rw [hA, ai]
   exact (W6 t d x _).trans (O0 E2 (kO hA Cw (Nat.zero_le _)))
  | cons v o =>
   have hs := OU (op, nm, ins, out, ag, ()) (t, d, x, ()) v o (Int.ofNat d.length) (d.length : Int) m Cq
   rw [hd, ax] at hs
   have ho : (v :: o).length <= 2147483648 := by omega
   refine hs.trans ((acI _ op nm ins out ag (t, d, x, ()) (v :: o) (Int.ofNat d.length) (d.length : Int)).trans ?_)
   rw [hA, ai, aD ho, ai]
   exact (W6 t d x _).trans (O0 E2 (kO hA Cw ho))
theorem ahp (y : ek) (t : b9) (l : Int) : hlp gu ch yY (aq × LHp) (wG y t l 0) Cq = lp gu ch yY fu (wG y t l 0) Cq := rfl
def mtV (ag : bn) (d x : af) : af := EH (OR (uy d) (al ag Cw (dnL d.length))) x
def mtF : List AV -> LHp -> Tq
 | [.d Y2 y, .d Y0 t], [] => .br (aF y.2.2.2.2.1 && decide (List.length t.2.1 <= 2147483648)) (.leaf (.ret [.d (.slice aa) (mtV y.2.2.2.2.1 t.2.1 t.2.2.1)]) []) .no
 | _, _ => .no
theorem acO : bg 44 (ao mtF) := by
 have h1 := bD (d := 6) (l := [(3, [2, 3, 5, 14, 15]), (9, [3, 7, 25, 26, 27])]) Jx func44 call44
 refine aO fun args hs ae aH h' => ?_
 unfold mtF at h'
 split at h'
 ·rename_i y t
  obtain ⟨op, nm, ins, out, ag, u⟩ := y
  obtain ⟨t, d, x, w⟩ := t
  obtain ⟨hb, h2⟩ := Tq.br_no h'
  rw [ba] at hb
  exact h1.okC (((acG op nm ins out ag t d x).trans ((ahp _ _ _).trans (acN hb.1 (aU hb.2)))).trans h2)
 ·cases h'
theorem VD {ag : bn} {d x : af} {v : Int} (h : v ∈ mtV ag d x) : v ∈ x := yV h
noncomputable def O1 : Env := (Sm.add 75 (ao vfF)).add 133 ab5
theorem JB : O1.Good := (ix.add yS).add G0
theorem acP (off : Int) (ds ss : af) (k a b : Int) : aC O1 f82 7 [] [.d (Y0) (off, ds, ss, ()), I k, I a, I b] [] ah = bif mR (off, ds, ss, PUnit.unit) then bif !gC (off, ds, ss, PUnit.unit) then az [(I 0).pr (AV.nils.pr (AV.nils.pr (AV.d Ty.unit PUnit.unit))), I 1] else bif decide (k < 0) then az [(I 0).pr (AV.nils.pr (AV.nils.pr (AV.d Ty.unit PUnit.unit))), I 4] else bif decide (k >= Int.ofNat ds.length) then az [(I 0).pr (AV.nils.pr (AV.nils.pr (AV.d Ty.unit PUnit.unit))), I 4] else bif decide (a < 0) then az [(I 0).pr (AV.nils.pr (AV.nils.pr (AV.d Ty.unit PUnit.unit))), I 4] else (idx ds k).bind fun v5 => bif decide (b > v5) then az [(I 0).pr (AV.nils.pr (AV.nils.pr (AV.d Ty.unit PUnit.unit))), I 4] else bif decide (a >= b) then az [(I 0).pr (AV.nils.pr (AV.nils.pr (AV.d Ty.unit PUnit.unit))), I 4] else (idx ss k).bind fun v8 => bif decide (i64.wrap (off + i64.wrap (a * v8)) >= 65536) then az [(I 0).pr (AV.nils.pr (AV.nils.pr (AV.d Ty.unit PUnit.unit))), I 6] else bif decide (ds.length <= 2147483648) then bif decide (ss.length <= 2147483648) then (idx ss k).bind fun v12 => (idx ds k).bind fun v13 => (fv ds k.toNat (i64.wrap (b - a))).bind fun C4 => some (aq.ret [(I (i64.wrap (off + i64.wrap (a * v12)))).pr ((AV.os 0 0).pr ((AV.os 1 0).pr (AV.d Ty.unit PUnit.unit))), I 0], [(0, aj.arr 3 (aa) 0 false C4), (1, aj.arr 3 (aa) 0 false ss)]) else none else none else none := by kernel_rfl
noncomputable def um : Code := bd f45
noncomputable def y8 : Code := cL (cL (cR (cL (cR (cR (cR um))))))
noncomputable def pf : Code := cL (cL (cR (cL (cR (cR (cR (cR (cR um))))))))
noncomputable def bV : Cfg := ⟨76, 7, 0, [(4, [2, 3, 4, 7, 8, 19, 20]), (10, [2, 4, 7, 10, 32, 33, 34])], true⟩
def vwO (r : Option (aq × LHp)) : Option (Vw × Int) := match r with
 | some (.ret [.d ((.pair (.int .i64) (.pair (.slice (.int .i64)) (.pair (.slice (.int .i64)) .unit)))) v, .d (.int .i64) e], []) => some (v, e)
 | _ => none
theorem Cx {r : Option (aq × LHp)} {p : Vw × Int} (h : vwO r = some p) : r = some (.ret [.d (Y0) p.1, I p.2], []) := by
 unfold vwO at h
 split at h
 ·cases h; rfl
 ·cases h
noncomputable def vsR (v : Vw) (k a b : Int) : Option (Vw × Int) := vwO (gW [(Y0), aa] (aC O1 f82 7 [] [.d (Y0) v, I k, I a, I b] [] ah))
noncomputable def PW (v : Vw) (k a b : Int) : Bool := (vsR v k a b).isSome
noncomputable def PX (v : Vw) (k a b : Int) : Vw := ((vsR v k a b).getD ((0, [], [], ()), 0)).1
noncomputable def vsC (v : Vw) (k a b : Int) : Int := ((vsR v k a b).getD ((0, [], [], ()), 0)).2
noncomputable def vsF : List AV -> LHp -> Tq
 | [.d Y0 v, .d zI k, .d zI a, .d zI b], [] => .br (PW v k a b) (.leaf (.ret [.d (Y0) (PX v k a b), I (vsC v k a b)]) []) .no
 | _, _ => .no
theorem acQ : bg 82 (ao vsF) := by
 have h1 := bD (d := 7) (l := []) JB func82 call82
 refine aO fun args hs ae aH h' => ?_
 unfold vsF at h'
 split at h'
 ·rename_i v k a b
  obtain ⟨hb, h2⟩ := Tq.br_no h'
  refine h1.okBQ [(Y0), aa] (Eq.trans ?_ h2)
  unfold PW at hb
  unfold PX vsC
  cases hq : vsR v k a b with
  | none => rw [hq] at hb; cases hb
  | some p => exact Cx hq
 ·cases h'
noncomputable def vsE : FnE := b8 [(Y0), aa, aa, aa] (ao vsF)
theorem acR : bg 82 vsE := bf acQ
noncomputable def eT : Env := (((Sm.add 25 uT).add 82 vsE).add 42 Vi).add 43 Vr
theorem JC : eT.Good := (((ix.add iX).add acR).add yT).add yU
theorem acS (op nm : ak) (ins : List (ak)) (out : ak) (ag : bn) (t : Int) (d x e : af) : aC eT f45 7 [(4, [2, 3, 4, 7, 8, 19, 20]), (10, [2, 4, 7, 10, 32, 33, 34])] [cO op nm ins out ag, .d (Y0) (t, d, x, ()), .d (.slice aa) e] [] ah = bif aF ag then (hlp eT bV) y8 _ { fr := aw 7 [(2, AV.d (aa).slice e), (3, AV.op 0 [] 0), (4, AV.op 1 [] 0), (7, AV.d (aa).slice (al ag oH [])), (8, AV.nils), (19, I (Int.ofNat (al ag oH []).length)), (20, I 0)], hp := [(0, aj.box (AV.d Y2 (op, nm, ins, out, ag, PUnit.unit))), (1, aj.box (AV.d Y0 (t, d, x, PUnit.unit)))], nx := 2 } (aQ 0 (aX eT bV [4, 10] (hlp eT bV) (cR (cR (cR (cR um)))) (aZ prog 0 f45.results.toList ah))) else none := (bq [4, 10] bV rfl).trans (by obtain ⟨hl, h⟩ := bc eT bV; rw [h]; kernel_rfl)
noncomputable def O2 (hl : Hl) : AEx -> LSt -> Option (aq × LHp) := aQ 0 (aX eT bV [4, 10] hl (cR (cR (cR (cR um)))) (aZ prog 0 f45.results.toList ah))
noncomputable def Cy : AEx -> LSt -> Option (aq × LHp) := O2 (hlp eT bV)
noncomputable def Cz (y : ek) (t : b9) (e st : af) (i : Int) : LSt := { fr := aw 7 [(2, .d (.slice aa) e), (3, .op 0 [] 0), (4, .op 1 [] 0), (7, .d (.slice aa) st), (8, .nils), (19, I (Int.ofNat st.length)), (20, I i)], hp := Cp y t, nx := 2 }
noncomputable def He (y : ek) (t : b9) (e st : af) (i : Int) (o : af) : LSt := { fr := aw 7 [(2, .d (.slice aa) e), (3, .op 0 [] 0), (4, .op 1 [] 0), (7, .d (.slice aa) st), (8, .os 2 0), (19, I (Int.ofNat st.length)), (20, I i)], hp := Cp y t ++ [(2, .arr 2 aa 0 false o)], nx := 3 }
theorem O3 (y : ek) (t : b9) (e st : af) (i : Int) (n : Nat) {R : Type} (k : AEx -> LSt -> Option R) : lp eT bV y8 (n + 1) (Cz y t e st i) k = bif decide (i < Int.ofNat st.length) then lp eT bV y8 n (He y t e st (i64.wrap (i + 1)) [i]) k else k (AEx.exit 0) { fr := aw 7 [(2, AV.d (aa).slice e), (3, AV.op 0 [] 0), (4, AV.op 1 [] 0), (7, AV.d (aa).slice st), (8, AV.nils), (19, I (Int.ofNat st.length)), (20, I i), (21, B false)], hp := [(0, aj.box (AV.d Y2 y)), (1, aj.box (AV.d Y0 t))], nx := 2 } := by kernel_rfl
theorem O4 (y : ek) (t : b9) (e st : af) (i v : Int) (o : af) (n : Nat) {R : Type} (k : AEx -> LSt -> Option R) : lp eT bV y8 (n + 1) (He y t e st i (v :: o)) k = bif decide (i < Int.ofNat st.length) then (app (v :: o) [i]).bind fun v1 => lp eT bV y8 n (He y t e st (i64.wrap (i + 1)) v1) k else k (AEx.exit 0) { fr := aw 7 [(2, AV.d (aa).slice e), (3, AV.op 0 [] 0), (4, AV.op 1 [] 0), (7, AV.d (aa).slice st), (8, AV.os 2 0), (19, I (Int.ofNat st.length)), (20, I i), (21, B false)], hp := [(0, aj.box (AV.d Y2 y)), (1, aj.box (AV.d Y0 t)), (2, aj.arr 2 (aa) 0 false (v :: o))], nx := 3 } := by kernel_rfl
def j0 (t : b9) (e st l : af) (v : Vw) (i : Int) : LSt := { fr := aw 7 [(2, .d (.slice aa) e), (4, .op 0 [] 0), (7, .d (.slice aa) st), (10, .op 1 [] 0), (32, .d (.slice aa) l), (33, I (Int.ofNat l.length)), (34, I i)], hp := [(0, .box (.d (Y0) t)), (1, .box (.d (Y0) v))], nx := 2 }
theorem acT (hl : Hl) (op nm : ak) (ins : List (ak)) (out : ak) (ag : bn) (t : Int) (d x e st : af) (i : Int) : O2 hl (.exit 0) { fr := aw 7 [(2, .d (.slice aa) e), (3, .op 0 [] 0), (4, .op 1 [] 0), (7, .d (.slice aa) st), (8, .nils), (19, I (Int.ofNat st.length)), (20, I i), (21, B false)], hp := Cp (op, nm, ins, out, ag, ()) (t, d, x, ()), nx := 2 } = bif decide (d.length <= 2147483648) then bif aF ag then hl pf _ (j0 (t, d, x, ()) e st (al ag iu []) (uy d) 0) (aQ 2 (aX eT bV [4, 10] hl (cR (cR (cR (cR (cR (cR um)))))) (aZ prog 0 f45.results.toList ah))) else none else none := by kernel_rfl
theorem acU (hl : Hl) (op nm : ak) (ins : List (ak)) (out : ak) (ag : bn) (t : Int) (d x e st o : af) (i : Int) : O2 hl (.exit 0) { fr := aw 7 [(2, .d (.slice aa) e), (3, .op 0 [] 0), (4, .op 1 [] 0), (7, .d (.slice aa) st), (8, .os 2 0), (19, I (Int.ofNat st.length)), (20, I i), (21, B false)], hp := Cp (op, nm, ins, out, ag, ()) (t, d, x, ()) ++ [(2, .arr 2 aa 0 false o)], nx := 3 } = bif decide (d.length <= 2147483648) then bif aF ag then bif decide (o.length <= 2147483648) then hl pf _ (j0 (t, d, x, ()) e st (al ag iu o) (uy d) 0) (aQ 2 (aX eT bV [4, 10] hl (cR (cR (cR (cR (cR (cR um)))))) (aZ prog 0 f45.results.toList ah))) else none else none else none := by kernel_rfl
noncomputable def qY : AEx -> LSt -> Option (aq × LHp) := (aQ 2 (aX eT bV [4, 10] (hlp eT bV) (cR (cR (cR (cR (cR (cR um)))))) (aZ prog 0 f45.results.toList ah)))
theorem W7 (t : Int) (d x e st l : af) (v : Vw) (i : Int) (n : Nat) : lp eT bV pf (n + 1) (j0 (t, d, x, ()) e st l v i) qY = bif decide (i < Int.ofNat l.length) then (idx l i).bind fun v1 => bif decide (v1 < 0) then (idx st i).bind fun v3 => bif decide (v3 < 0) then (idx d (i64.wrap (v1 + Int.ofNat d.length))).bind fun v5 => (idx e (i64.wrap (v1 + Int.ofNat d.length))).bind fun v6 => bif PW v (i64.wrap (v1 + Int.ofNat d.length)) (if i64.wrap (v3 + v5) > 0 then i64.wrap (v3 + v5) else 0) (i64.wrap ((if i64.wrap (v3 + v5) > 0 then i64.wrap (v3 + v5) else 0) + v6)) then lp eT bV pf n (j0 (t, d, x, ()) e st l (PX v (i64.wrap (v1 + Int.ofNat d.length)) (if i64.wrap (v3 + v5) > 0 then i64.wrap (v3 + v5) else 0) (i64.wrap ((if i64.wrap (v3 + v5) > 0 then i64.wrap (v3 + v5) else 0) + v6))) (i64.wrap (i + 1))) qY else none else (idx e (i64.wrap (v1 + Int.ofNat d.length))).bind fun v5 => bif PW v (i64.wrap (v1 + Int.ofNat d.length)) (if v3 > 0 then v3 else 0) (i64.wrap ((if v3 > 0 then v3 else 0) + v5)) then lp eT bV pf n (j0 (t, d, x, ()) e st l (PX v (i64.wrap (v1 + Int.ofNat d.length)) (if v3 > 0 then v3 else 0) (i64.wrap ((if v3 > 0 then v3 else 0) + v5))) (i64.wrap (i + 1))) qY else none else (idx st i).bind fun v3 => bif decide (v3 < 0) then (idx d v1).bind fun v5 => (idx e v1).bind fun v6 => bif PW v v1 (if i64.wrap (v3 + v5) > 0 then i64.wrap (v3 + v5) else 0) (i64.wrap ((if i64.wrap (v3 + v5) > 0 then i64.wrap (v3 + v5) else 0) + v6)) then lp eT bV pf n (j0 (t, d, x, ()) e st l (PX v v1 (if i64.wrap (v3 + v5) > 0 then i64.wrap (v3 + v5) else 0) (i64.wrap ((if i64.wrap (v3 + v5) > 0 then i64.wrap (v3 + v5) else 0) + v6))) (i64.wrap (i + 1))) qY else none else (idx e v1).bind fun v5 => bif PW v v1 (if v3 > 0 then v3 else 0) (i64.wrap ((if v3 > 0 then v3 else 0) + v5)) then lp eT bV pf n (j0 (t, d, x, ()) e st l (PX v v1 (if v3 > 0 then v3 else 0) (i64.wrap ((if v3 > 0 then v3 else 0) + v5))) (i64.wrap (i + 1))) qY else none else bif mR v then az [AV.d (aa).slice (EH v x)] else none := by kernel_rfl
theorem VE {R S A α : Type} {T : Nat -> S -> Option R} {xs : List α} {st : Int -> A -> S} {Q : Option R -> Prop} (Inv : Nat -> A -> Prop) (hl : xs.length <= maxLen)
  (h : ∀ (i : Nat) (a : A) (x : α) (n : Nat), Inv i a -> i < xs.length -> xs[i]? = some x -> idx xs (i : Int) = some x -> i64.wrap ((i : Int) + 1) = ((i + 1 : Nat) : Int) -> decide ((i : Int) < Int.ofNat xs.length) = true ->
   (∃ a', Inv (i + 1) a' /\ T (n + 1) (st (i : Int) a) = T n (st ((i + 1 : Nat) : Int) a')) \/ Q (T (n + 1) (st (i : Int) a)))
  (he : ∀ (a : A) (n : Nat), Inv xs.length a -> decide (((xs.length : Nat) : Int) < Int.ofNat xs.length) = false -> Q (T (n + 1) (st ((xs.length : Nat) : Int) a))) {a : A} (h0 : Inv 0 a) : Q (T fu (st 0 a)) := by
 have hm : maxLen = 9223372036854775807 := by decide
 have hf : fu = 18446744073709551616 := rfl
 have key : ∀ (r i n : Nat) (a : A), i + r = xs.length -> r < n -> Inv i a -> Q (T n (st (i : Int) a)) := by
  intro r
  induction r with
  | zero =>
   intro i n a hr hn hI
   obtain ⟨n, rfl⟩ : ∃ m', n = m' + 1 := ⟨n - 1, by omega⟩
   obtain rfl : i = xs.length := by omega
   exact he a n hI (bU (by simp only [aK]; omega))
  | succ r ih =>
   intro i n a hr hn hI
   obtain ⟨n, rfl⟩ : ∃ m', n = m' + 1 := ⟨n - 1, by omega⟩
   have hi : i < xs.length := by omega
   have gx : xs[i]? = some xs[i] := List.getElem?_eq_getElem hi
   have gi : idx xs (i : Int) = some xs[i] := by unfold idx; rw [if_pos (by omega), Int.toNat_natCast, gx]
   rcases h i a xs[i] n hI hi gx gi (aI (by omega) (by omega)) (aD (by simp only [aK]; omega)) with ⟨a', h1, h2⟩ | h1
   ·rw [h2]
    exact ih (i + 1) n a' (by omega) (by omega) h1
   ·exact h1
 exact key xs.length 0 fu a (by omega) (by omega) h0
theorem ajO {R S A : Type} {T : Nat -> S -> Option R} {N : Nat} {st : Int -> A -> S} {Q : Option R -> Prop} (Inv : Nat -> A -> Prop) (hl : N <= maxLen)
  (h : ∀ (i : Nat) (a : A) (n : Nat), Inv i a -> i < N -> i64.wrap ((i : Int) + 1) = ((i + 1 : Nat) : Int) -> decide ((i : Int) < Int.ofNat N) = true ->
   (∃ a', Inv (i + 1) a' /\ T (n + 1) (st (i : Int) a) = T n (st ((i + 1 : Nat) : Int) a')) \/ Q (T (n + 1) (st (i : Int) a)))
  (he : ∀ (a : A) (n : Nat), Inv N a -> decide ((N : Int) < Int.ofNat N) = false -> Q (T (n + 1) (st (N : Int) a))) {a : A} (h0 : Inv 0 a) : Q (T fu (st 0 a)) := by
 have hlen : (List.range N).length = N := List.length_range
 refine VE (xs := List.range N) Inv (by omega) (fun i a x n hI hi _ _ hw hd => ?_) (fun a n hI hd => ?_) h0
 ·rw [hlen] at hi hd
  exact h i a n hI hi hw hd
 ·rw [hlen] at hI hd ⊢
  exact he a n hI hd
theorem qC {v : Vw} (k a b : Int) (hv : mR v = true) : PW v k a b = true /\ mR (PX v k a b) = true := by
 obtain ⟨off, ds, ss, u⟩ := v
 have h1 : ds.length <= 2147483648 := (aU hv).1
 have h2 : ss.length <= 2147483648 := (aU hv).2
 have e := acP off ds ss k a b
 rw [show mR (off, ds, ss, PUnit.unit) = true from hv, ai, aD h1, aD h2] at e
 have fin : ∀ (p : Vw × Int), vwO (gW [(Y0), aa] (aC O1 f82 7 [] [.d (Y0) (off, ds, ss, ()), I k, I a, I b] [] ah)) = some p -> mR p.1 = true -> PW (off, ds, ss, u) k a b = true /\ mR (PX (off, ds, ss, u) k a b) = true := fun p hp hr => by
  have hR : vsR (off, ds, ss, u) k a b = some p := hp
  unfold PW PX
  rw [hR]
  exact ⟨rfl, hr⟩
 have er : ∀ c : Int, aC O1 f82 7 [] [.d (Y0) (off, ds, ss, ()), I k, I a, I b] [] ah = yX c -> PW (off, ds, ss, u) k a b = true /\ mR (PX (off, ds, ss, u) k a b) = true := fun c hc => by
  refine fin ((0, [], [], ()), c) ?_ rfl
  rw [hc]
  rfl
 cases hf : gC (off, ds, ss, PUnit.unit) with
 | false => rw [hf] at e; exact er 1 e
 | true =>
  obtain ⟨c1, c2, _⟩ := pc hf
  rw [hf, Bool.not_true, ax] at e
  by_cases q1 : k < 0
  ·rw [aD q1, ai] at e; exact er 4 e
  ·rw [bU q1, ax] at e
   by_cases q2 : k >= Int.ofNat ds.length
   ·rw [aD q2, ai] at e; exact er 4 e
   ·rw [bU q2, ax] at e
    simp only [aK] at q2
    by_cases q3 : a < 0
    ·rw [aD q3, ai] at e; exact er 4 e
    ·rw [bU q3, ax, fN (by omega) (by omega), aB] at e
     by_cases q4 : b > ds.getD k.toNat 0
     ·rw [aD q4, ai] at e; exact er 4 e
     ·rw [bU q4, ax] at e
      by_cases q5 : a >= b
      ·rw [aD q5, ai] at e; exact er 4 e
      ·rw [bU q5, ax, fN (by omega) (by omega), aB] at e
       by_cases q6 : i64.wrap (off + i64.wrap (a * ss.getD k.toNat 0)) >= 65536
       ·rw [aD q6, ai] at e; exact er 6 e
       ·rw [bU q6, ax, ai, ai, aB, aB, rD (by omega), aB] at e
        refine fin ((i64.wrap (off + i64.wrap (a * ss.getD k.toNat 0)), ds.set k.toNat (i64.wrap (b - a)), ss, ()), 0) ?_ ?_
        ·rw [e]; rfl
        ·exact aD ⟨by show (List.set ds _ _).length <= _; rw [List.length_set]; exact h1, h2⟩
def msQ (x : af) (r : Option (aq × LHp)) : Prop := ∃ w : Vw, r = some (.ret [.d (.slice aa) (EH w x)], [])
def nV (a r : Int) : Int := bif decide (a < 0) then i64.wrap (a + r) else a
theorem acV {t : Int} {d x e st l : af} (hl : l.length <= 2147483648) (he : e.length = d.length) (J7 : l.length <= st.length) (ha : ∀ a ∈ l, 0 <= nV a (Int.ofNat d.length) /\ nV a (Int.ofNat d.length) < (d.length : Int)) {v : Vw} (hv : mR v = true) :
  msQ x (lp eT bV pf fu (j0 (t, d, x, ()) e st l v 0) qY) := by
 have hm : maxLen = 9223372036854775807 := by decide
 refine VE (xs := l) (T := fun m s => lp eT bV pf m s qY) (st := fun (i : Int) (v : Vw) => j0 (t, d, x, ()) e st l v i) (Q := msQ x) (fun (_ : Nat) (v : Vw) => mR v = true) (by omega) ?_ ?_ hv
 ·intro i v a m hI hi gx gi hw hd
  left
  have hs := W7 t d x e st l v (i : Int) m
  have hx := ha a (List.mem_of_getElem? gx)
  obtain ⟨s, q8⟩ := mS (xs := st) (i := i) (by omega)
  unfold nV at hx
  rw [hd, ai, gi, aB, hw, q8] at hs
  cases h1 : decide (a < 0) with
  | true =>
   rw [h1, ai] at hx hs
   rw [fN (xs := d) hx.1 hx.2, fN (xs := e) hx.1 (by omega)] at hs
   simp only [aB] at hs
   cases h3 : decide (s < 0) with
   | true => rw [h3, ai, (qC _ _ _ hI).1, ai] at hs; exact ⟨_, (qC _ _ _ hI).2, hs⟩
   | false => rw [h3, ax, (qC _ _ _ hI).1, ai] at hs; exact ⟨_, (qC _ _ _ hI).2, hs⟩
  | false =>
   rw [h1, ax] at hx hs
   rw [fN (xs := d) hx.1 hx.2, fN (xs := e) hx.1 (by omega)] at hs
   simp only [aB] at hs
   cases h3 : decide (s < 0) with
   | true => rw [h3, ai, (qC _ _ _ hI).1, ai] at hs; exact ⟨_, (qC _ _ _ hI).2, hs⟩
   | false => rw [h3, ax, (qC _ _ _ hI).1, ai] at hs; exact ⟨_, (qC _ _ _ hI).2, hs⟩
 ·intro v m hI hd
  have hs := W7 t d x e st l v (l.length : Int) m
  rw [hd, ax, hI, ai] at hs
  exact ⟨v, hs⟩
def nv : ak := oH
def uo : ak := iu
theorem O5 (N : Nat) : (List.range N).foldl (fun o (i : Nat) => o ++ [(i : Int)]) [] = gy N := by
 unfold gy
 induction N with
 | zero => rfl
 | succ N ih => rw [List.range_succ, List.foldl_append, ih, List.map_append]; rfl
noncomputable def ajP (y : ek) (t : b9) (e st : af) (i : Int) : List Int -> LSt
 | [] => Cz y t e st i
 | v :: o => He y t e st i (v :: o)
theorem W8 (t : b9) (e st l : af) (v : Vw) : hlp eT bV pf (aq × LHp) (j0 t e st l v 0) qY = lp eT bV pf fu (j0 t e st l v 0) qY := rfl
theorem ahr (y : ek) (t : b9) (e st : af) : hlp eT bV y8 (aq × LHp) (Cz y t e st 0) Cy = lp eT bV y8 fu (Cz y t e st 0) Cy := rfl
theorem VF {op nm : ak} {ins : List (ak)} {out : ak} {ag : bn} {t : Int} {d x e st : af} (hA : aF ag = true) (E2 : d.length <= 2147483648) (kf : st.length <= 2147483648) :
  lp eT bV y8 fu (Cz (op, nm, ins, out, ag, ()) (t, d, x, ()) e st 0) Cy = lp eT bV pf fu (j0 (t, d, x, ()) e st (al ag uo (gy st.length)) (uy d) 0) qY := by
 have hm : maxLen = 9223372036854775807 := by decide
 refine (x6 (N := st.length) (T := fun m s => lp eT bV y8 m s Cy) (st := fun (i : Int) (o : af) => ajP (op, nm, ins, out, ag, ()) (t, d, x, ()) e st i o) (f := fun o (i : Nat) => Nx.go (o ++ [(i : Int)])) (fin := fun o => lp eT bV pf fu (j0 (t, d, x, ()) e st (al ag uo o) (uy d) 0) qY) (fun (i : Nat) (o : af) => o.length = i) (by omega) ?_ ?_ (a := []) rfl).trans ((pe _ []).trans (by rw [O5]))
 ·intro i o m hI hi wR hd
  refine .inl ⟨o ++ [(i : Int)], rfl, by rw [List.length_append, hI]; rfl, ?_⟩
  cases o with
  | nil =>
   have hs := O3 (op, nm, ins, out, ag, ()) (t, d, x, ()) e st (i : Int) m Cy
   rw [hd, ai, wR] at hs
   exact hs
  | cons v o =>
   have j1 : (v :: o).length + [(i : Int)].length <= lim := by rw [hI, List.length_singleton, show lim = 4294967296 from rfl]; omega
   have hs := O4 (op, nm, ins, out, ag, ()) (t, d, x, ()) e st (i : Int) v o m Cy
   rw [hd, ai, wR, dI j1, aB] at hs
   exact hs
 ·intro o m hI hd
  cases o with
  | nil =>
   have hs := O3 (op, nm, ins, out, ag, ()) (t, d, x, ()) e st (st.length : Int) m Cy
   rw [hd, ax] at hs
   refine hs.trans ((acT _ op nm ins out ag t d x e st (st.length : Int)).trans ?_)
   rw [hA, aD E2, ai, ai]
   exact W8 _ _ _ _ _
  | cons v o =>
   have hs := O4 (op, nm, ins, out, ag, ()) (t, d, x, ()) e st (st.length : Int) v o m Cy
   rw [hd, ax] at hs
   refine hs.trans ((acU _ op nm ins out ag t d x e st (v :: o) (st.length : Int)).trans ?_)
   rw [hA, aD E2, ai, ai, aD (show (v :: o).length <= 2147483648 by omega), ai]
   exact W8 _ _ _ _ _
def lsO (r : Option (aq × LHp)) : Option (af) := match r with
 | some (.ret [.d (.slice (.int .i64)) l], []) => some l
 | _ => none
theorem CA {r : Option (aq × LHp)} {l : af} (h : lsO r = some l) : r = some (.ret [.d (.slice aa) l], []) := by
 unfold lsO at h
 split at h
 ·cases h; rfl
 ·cases h
noncomputable def msR (y : ek) (t : b9) (e : af) : Option (af) := lsO (aC eT f45 7 [(4, [2, 3, 4, 7, 8, 19, 20]), (10, [2, 4, 7, 10, 32, 33, 34])] [.d (Y2) y, .d (Y0) t, .d (.slice aa) e] [] ah)
noncomputable def msG (y : ek) (t : b9) (e : af) : Bool := (msR y t e).isSome
noncomputable def msV (y : ek) (t : b9) (e : af) : af := (msR y t e).getD []
noncomputable def msF : List AV -> LHp -> Tq
 | [.d Y2 y, .d Y0 t, .d zS e], [] => .br (msG y t e) (.leaf (.ret [.d (.slice aa) (msV y t e)]) []) .no
 | _, _ => .no
theorem acW : bg 45 (ao msF) := by
 have h1 := bD (d := 7) (l := [(4, [2, 3, 4, 7, 8, 19, 20]), (10, [2, 4, 7, 10, 32, 33, 34])]) JC func45 call45
 refine aO fun args hs ae aH h' => ?_
 unfold msF at h'
 split at h'
 ·rename_i y t e
  obtain ⟨hb, h2⟩ := Tq.br_no h'
  unfold msG at hb
  unfold msV at h2
  cases hq : msR y t e with
  | none => rw [hq] at hb; cases hb
  | some l => rw [hq] at h2; exact h1.okC ((CA hq).trans h2)
 ·cases h'
theorem ahs {op nm : ak} {ins : List (ak)} {out : ak} {ag : bn} {t : Int} {d x e : af} (hA : aF ag = true) (E2 : d.length <= 2147483648) (he : e.length = d.length)
  (J7 : (al ag uo (gy (al ag nv []).length)).length <= (al ag nv []).length) (ha : ∀ a ∈ al ag uo (gy (al ag nv []).length), 0 <= nV a (Int.ofNat d.length) /\ nV a (Int.ofNat d.length) < (d.length : Int)) :
  msG (op, nm, ins, out, ag, ()) (t, d, x, ()) e = true /\ (msV (op, nm, ins, out, ag, ()) (t, d, x, ()) e).length <= 65536 /\ ∀ v ∈ msV (op, nm, ins, out, ag, ()) (t, d, x, ()) e, v ∈ x := by
 have kf : (al ag nv []).length <= 2147483648 := kO hA nv (Nat.zero_le _)
 have e1 := acS op nm ins out ag t d x e
 rw [hA, ai] at e1
 have e2 : aC eT f45 7 [(4, [2, 3, 4, 7, 8, 19, 20]), (10, [2, 4, 7, 10, 32, 33, 34])] [cO op nm ins out ag, .d (Y0) (t, d, x, ()), .d (.slice aa) e] [] ah = lp eT bV pf fu (j0 (t, d, x, ()) e (al ag nv []) (al ag uo (gy (al ag nv []).length)) (uy d) 0) qY := e1.trans ((ahr _ _ _ _).trans (VF hA E2 kf))
 obtain ⟨w, hw⟩ := acV (t := t) (x := x) (Nat.le_trans J7 kf) he J7 ha (y7 E2)
 have hR : msR (op, nm, ins, out, ag, ()) (t, d, x, ()) e = some (EH w x) := by
  show lsO (aC eT f45 7 [(4, [2, 3, 4, 7, 8, 19, 20]), (10, [2, 4, 7, 10, 32, 33, 34])] [cO op nm ins out ag, .d (Y0) (t, d, x, ()), .d (.slice aa) e] [] ah) = _
  rw [e2, hw]
  rfl
 unfold msG msV
 rw [hR]
 exact ⟨rfl, yW w x, fun v hv => yV hv⟩
noncomputable def W9 : Code := bd f41
noncomputable def CB : Code := cL (cL (cR (cL (cR (cR (cR (cR (cR W9))))))))
noncomputable def iP : Cfg := ⟨73, 7, 0, [(10, [2, 4, 6, 8, 38, 39, 40])], true⟩
def y9 (xs ys : af) : af := bif dg xs ys == 0 then gr xs ys else []
def acX : List AV -> LHp -> Tq
 | [.d zS xs, .d zS ys], [] => .br (decide (xs.length <= 2147483648 /\ ys.length <= 2147483648)) (.leaf (.ret [.d (.slice aa) (y9 xs ys), I (dg xs ys)]) []) .no
 | _, _ => .no
theorem VG : bg 76 (ao acX) := by
 have h1 : bg 76 (Ce [.slice aa, aa] (ao SH)) := yM Gf
 refine aO fun args hs ae aH h' => ?_
 unfold acX at h'
 split at h'
 ·rename_i xs ys
  obtain ⟨hb, h2⟩ := Tq.br_no h'
  refine h1.ok _ _ _ _ (Eq.trans ?_ h2)
  show (D5 xs ys).run _ = (az [.d (.slice aa) (y9 xs ys), I (dg xs ys)] : Option (aq × LHp))
  unfold D5 y9 dg gr
  rw [hb]
  show (bif ay xs != 0 then _ else (bif ay ys != 0 then _ else (bif ux xs ys then _ else bif PN xs ys then _ else bif ay (py xs ys) != 0 then _ else _))) = _
  cases c1 : ay xs != 0 with
  | true =>
   show _ = (az [.d (.slice aa) (bif ay xs == 0 then bif ux xs ys then [] else py xs ys else []), I (ay xs)] : Option (aq × LHp))
   rw [show (ay xs == 0) = false from jH c1]; rfl
  | false =>
   cases c2 : ay ys != 0 with
   | true =>
    show _ = (az [.d (.slice aa) (bif ay ys == 0 then bif ux xs ys then [] else py xs ys else []), I (ay ys)] : Option (aq × LHp))
    rw [show (ay ys == 0) = false from jH c2]; rfl
   | false =>
    cases ux xs ys with
    | true => rfl
    | false =>
     cases PN xs ys with
     | true => rfl
     | false =>
      cases c3 : ay (py xs ys) != 0 with
      | true =>
       show _ = (az [.d (.slice aa) (bif ay (py xs ys) == 0 then py xs ys else []), I (ay (py xs ys))] : Option (aq × LHp))
       rw [show (ay (py xs ys) == 0) = false from jH c3]; rfl
      | false =>
       have h0 : ay (py xs ys) = 0 := by simpa using c3
       show _ = (az [.d (.slice aa) (bif ay (py xs ys) == 0 then py xs ys else []), I (ay (py xs ys))] : Option (aq × LHp))
       rw [h0]
       rfl
 ·cases h'
noncomputable def Xa : FnE := b8 [.slice aa, .slice aa] (ao acX)
theorem O6 : bg 76 Xa := bf VG
noncomputable def m9 : Env := ((ry.add 76 Xa).add 77 abE).add 75 (ao vfF)
theorem JD : m9.Good := ((dB.add O6).add GU).add yS
noncomputable def CC : AEx -> LSt -> Option (aq × LHp) := (aQ 1 (aX m9 iP [10] (hlp m9 iP) (cR (cR (cR (cR (cR (cR W9)))))) (aZ prog 0 f41.results.toList ah)))
theorem acY (off : Int) (ds ss e : af) : aC m9 f41 7 [(10, [2, 4, 6, 8, 38, 39, 40])] [.d (Y0) (off, ds, ss, ()), .d (.slice aa) e] [] ah = bif mR (off, ds, ss, PUnit.unit) then bif !gC (off, ds, ss, PUnit.unit) then az [(I 0).pr (AV.nils.pr (AV.nils.pr (AV.d Ty.unit PUnit.unit))), I 1] else bif decide (ds.length <= 2147483648 /\ e.length <= 2147483648) then bif dg ds e != 0 then az [(I 0).pr (AV.nils.pr (AV.nils.pr (AV.d Ty.unit PUnit.unit))), I (dg ds e)] else bif decide ((y9 ds e).length <= 9223372036854775807) then bif !y9 ds e == e then az [(I 0).pr (AV.nils.pr (AV.nils.pr (AV.d Ty.unit PUnit.unit))), I 4] else (if 0 <= Int.ofNat (y9 ds e).length /\ Int.ofNat (y9 ds e).length <= 4294967296 then some (List.replicate (Int.ofNat (y9 ds e).length).toNat 0) else none).bind fun v6 => (hlp m9 iP) CB _ { fr := aw 7 [(2, AV.op 0 [] 0), (4, AV.op 1 [] 0), (6, AV.d (aa).slice (y9 ds e)), (8, AV.os 2 0), (38, AV.d (aa).slice ds), (39, I (Int.ofNat ds.length)), (40, I 0)], hp := [(0, aj.box (AV.d Y0 (off, ds, ss, PUnit.unit))), (1, aj.box ((I 0).pr (AV.nils.pr (AV.nils.pr (AV.d Ty.unit PUnit.unit))))), (2, aj.arr 3 (aa) 0 false v6)], nx := 3 } CC else none else none else none := (bq [10] iP rfl).trans (by obtain ⟨hl, h⟩ := bc m9 iP; rw [h]; kernel_rfl)
def CD (v : Vw) (l D : af) (i : Int) : LSt := { fr := aw 7 [(2, .op 0 [] 0), (4, .op 1 [] 0), (6, .d (.slice aa) l), (8, .os 2 0), (38, .d (.slice aa) v.2.1), (39, I (Int.ofNat (List.length v.2.1))), (40, I i)], hp := [(0, .box (.d (Y0) v)), (1, .box ((I 0).pr (AV.nils.pr (AV.nils.pr (AV.d Ty.unit PUnit.unit))))), (2, .arr 3 aa 0 false D)], nx := 3 }
theorem Xb (off : Int) (ds ss l D : af) (i : Int) (n : Nat) : lp m9 iP CB (n + 1) (CD (off, ds, ss, ()) l D i) CC = bif decide (i < Int.ofNat ds.length) then (idx ds i).bind fun v1 => (idx l (i64.wrap (i64.wrap (Int.ofNat l.length - Int.ofNat ds.length) + i))).bind fun v2 => bif v1 == v2 then (idx ss i).bind fun v4 => (idx D (i64.wrap (i64.wrap (Int.ofNat l.length - Int.ofNat ds.length) + i))).bind fun v5 => (fv D (i64.wrap (i64.wrap (Int.ofNat l.length - Int.ofNat ds.length) + i)).toNat v4).bind fun v6 => lp m9 iP CB n { fr := aw 7 [(2, AV.op 0 [] 0), (4, AV.op 1 [] 0), (6, AV.d (aa).slice l), (8, AV.os 2 0), (38, AV.d (aa).slice ds), (39, I (Int.ofNat ds.length)), (40, I (i64.wrap (i + 1)))], hp := [(0, aj.box (AV.d Y0 (off, ds, ss, PUnit.unit))), (1, aj.box ((I 0).pr (AV.nils.pr (AV.nils.pr (AV.d Ty.unit PUnit.unit))))), (2, aj.arr 3 (aa) 0 false v6)], nx := 3 } CC else lp m9 iP CB n { fr := aw 7 [(2, AV.op 0 [] 0), (4, AV.op 1 [] 0), (6, AV.d (aa).slice l), (8, AV.os 2 0), (38, AV.d (aa).slice ds), (39, I (Int.ofNat ds.length)), (40, I (i64.wrap (i + 1)))], hp := [(0, aj.box (AV.d Y0 (off, ds, ss, PUnit.unit))), (1, aj.box ((I 0).pr (AV.nils.pr (AV.nils.pr (AV.d Ty.unit PUnit.unit))))), (2, aj.arr 3 (aa) 0 false D)], nx := 3 } CC else some (aq.ret [(I off).pr ((AV.d (aa).slice l).pr ((AV.os 0 0).pr (AV.d Ty.unit PUnit.unit))), I 0], [(0, aj.arr 3 (aa) 0 false D)]) := by kernel_rfl
theorem za : ∀ {A B l : af}, A.length = B.length -> PM A B = some l -> l.length = A.length
 | [], [], l, _, h => by cases h; rfl
 | [], _ :: _, _, h, _ => by cases h
 | _ :: _, [], _, h, _ => by cases h
 | d :: r, e :: s, l, h, h2 => by
  have h : r.length = s.length := by simpa using h
  rw [PM] at h2
  cases c1 : d == 1 with
  | true =>
   rw [c1, ai, Option.map_eq_some_iff] at h2
   obtain ⟨m, h3, rfl⟩ := h2
   rw [List.length_cons, List.length_cons, za h h3]
  | false =>
   rw [c1, ax] at h2
   cases c2 : e != 1 && e != d with
   | true => rw [c2] at h2; cases h2
   | false =>
    rw [c2, ax, Option.map_eq_some_iff] at h2
    obtain ⟨m, h3, rfl⟩ := h2
    rw [List.length_cons, List.length_cons, za h h3]
theorem Hf {A B l : af} (h : B.length <= A.length) (h2 : YK A B = some l) : l.length = A.length := by
 unfold YK at h2
 rw [Option.map_eq_some_iff] at h2
 obtain ⟨m, h3, rfl⟩ := h2
 have := za (by rw [List.length_drop]; omega) h3
 rw [List.length_append, this, List.length_drop, List.length_take]
 omega
theorem VH {xs ys : af} (h : (dg xs ys != 0) = false) : xs.length <= (y9 xs ys).length := by
 have h0 : dg xs ys = 0 := by simpa using h
 unfold y9
 rw [h0]
 show xs.length <= (gr xs ys).length
 unfold dg at h0
 unfold gr
 cases h1 : ay xs != 0 with
 | true => rw [h1, ai] at h0; rw [h0] at h1; exact absurd h1 (by decide)
 | false =>
  rw [h1, ax] at h0
  cases h2 : ay ys != 0 with
  | true => rw [h2, ai] at h0; rw [h0] at h2; exact absurd h2 (by decide)
  | false =>
   rw [h2, ax] at h0
   cases h3 : ux xs ys with
   | true =>
    rw [ai]
    unfold ux at h3
    by_cases hl : Int.ofNat xs.length < Int.ofNat ys.length
    ·rw [aD hl, ai, List.isEmpty_iff] at h3
     rw [h3] at hl
     simp only [aK, List.length_nil] at hl
     omega
    ·rw [bU hl, ax, List.isEmpty_iff] at h3
     rw [h3]
     exact Nat.le_refl _
   | false =>
    rw [h3, ax] at h0
    rw [ax]
    cases h4 : PN xs ys with
    | true => rw [h4, ai] at h0; exact PV h0
    | false =>
     unfold PN at h4
     unfold py
     unfold Mm at h4 ⊢
     by_cases hl : Int.ofNat xs.length < Int.ofNat ys.length
     ·simp only [aK] at hl
      rw [aD (show Int.ofNat xs.length < Int.ofNat ys.length by simp only [aK]; omega), ai] at h4 ⊢
      cases hq : YK ys xs with
      | none => rw [hq] at h4; cases h4
      | some l => rw [Option.getD_some, Hf (by omega) hq]; omega
     ·rw [bU hl, ax] at h4 ⊢
      simp only [aK] at hl
      cases hq : YK xs ys with
      | none => rw [hq] at h4; cases h4
      | some l => rw [Option.getD_some, Hf (by omega) hq]; exact Nat.le_refl _
def spQ (off : Int) (l : af) (r : Option (aq × LHp)) : Prop := ∃ D : af, D.length = l.length /\ r = some (aq.ret [(I off).pr ((AV.d (aa).slice l).pr ((AV.os 0 0).pr (AV.d Ty.unit PUnit.unit))), I 0], [(0, aj.arr 3 (aa) 0 false D)])
theorem acZ {off : Int} {ds ss l D : af} (hss : ss.length = ds.length) (hdl : ds.length <= l.length) (hl : l.length <= 2147483648) (hD : D.length = l.length) : spQ off l (lp m9 iP CB fu (CD (off, ds, ss, ()) l D 0) CC) := by
 have hm : maxLen = 9223372036854775807 := by decide
 refine VE (xs := ds) (T := fun m s => lp m9 iP CB m s CC) (st := fun (i : Int) (D : af) => CD (off, ds, ss, ()) l D i) (Q := spQ off l) (fun (_ : Nat) (D : af) => D.length = l.length) (by omega) ?_ ?_ hD
 ·intro i D x m hI hi gx gi hw hd
  left
  have hs := Xb off ds ss l D (i : Int) m
  have wk : i64.wrap (i64.wrap (Int.ofNat l.length - Int.ofNat ds.length) + (i : Int)) = ((l.length - ds.length + i : Nat) : Int) := by
   simp only [aK]
   rw [aI (n := ((l.length : Nat) : Int) - ((ds.length : Nat) : Int)) (by omega) (by omega), aI (by omega) (by omega)]
   omega
  obtain ⟨y, hy⟩ := mS (xs := l) (i := l.length - ds.length + i) (by omega)
  obtain ⟨s, q8⟩ := mS (xs := ss) (i := i) (by omega)
  obtain ⟨z, hz⟩ := mS (xs := D) (i := l.length - ds.length + i) (by omega)
  rw [hd, ai, gi, aB, hw, wk, hy, aB] at hs
  cases hc : x == y with
  | true =>
   rw [hc, ai, q8, aB, hz, aB, Int.toNat_natCast, rD (by omega), aB] at hs
   exact ⟨_, (List.length_set).trans hI, hs⟩
  | false =>
   rw [hc, ax] at hs
   exact ⟨_, hI, hs⟩
 ·intro D m hI hd
  have hs := Xb off ds ss l D (ds.length : Int) m
  rw [hd, ax] at hs
  exact ⟨D, hI, hs⟩
theorem aht (v : Vw) (l D : af) : hlp m9 iP CB (aq × LHp) (CD v l D 0) CC = lp m9 iP CB fu (CD v l D 0) CC := rfl
noncomputable def spR (v : Vw) (e : af) : Option (Vw × Int) := vwO (gW [(Y0), aa] (aC m9 f41 7 [(10, [2, 4, 6, 8, 38, 39, 40])] [.d (Y0) v, .d (.slice aa) e] [] ah))
noncomputable def spG (v : Vw) (e : af) : Bool := (spR v e).isSome
noncomputable def Xc (v : Vw) (e : af) : Vw := ((spR v e).getD ((0, [], [], ()), 0)).1
noncomputable def spC (v : Vw) (e : af) : Int := ((spR v e).getD ((0, [], [], ()), 0)).2
noncomputable def spF : List AV -> LHp -> Tq
 | [.d Y0 v, .d zS e], [] => .br (spG v e) (.leaf (.ret [.d (Y0) (Xc v e), I (spC v e)]) []) .no
 | _, _ => .no
theorem ac1 : bg 41 (ao spF) := by
 have h1 := bD (d := 7) (l := [(10, [2, 4, 6, 8, 38, 39, 40])]) JD func41 call41
 refine aO fun args hs ae aH h' => ?_
 unfold spF at h'
 split at h'
 ·rename_i v e
  obtain ⟨hb, h2⟩ := Tq.br_no h'
  refine h1.okBQ [(Y0), aa] (Eq.trans ?_ h2)
  unfold spG at hb
  unfold Xc spC
  cases hq : spR v e with
  | none => rw [hq] at hb; cases hb
  | some p => exact Cx hq
 ·cases h'
noncomputable def spE : FnE := b8 [(Y0), .slice aa] (ao spF)
theorem ac2 : bg 41 spE := bf ac1
theorem ahv {v : Vw} {e : af} (hv : mR v = true) (he : e.length <= 2147483648) : spG v e = true /\ mR (Xc v e) = true := by
 obtain ⟨off, ds, ss, u⟩ := v
 have h1 : ds.length <= 2147483648 := (aU hv).1
 have q := acY off ds ss e
 rw [show mR (off, ds, ss, PUnit.unit) = true from hv, ai] at q
 have fin : ∀ (p : Vw × Int), vwO (gW [(Y0), aa] (aC m9 f41 7 [(10, [2, 4, 6, 8, 38, 39, 40])] [.d (Y0) (off, ds, ss, ()), .d (.slice aa) e] [] ah)) = some p -> mR p.1 = true -> spG (off, ds, ss, u) e = true /\ mR (Xc (off, ds, ss, u) e) = true := fun p hp hr => by
  have hR : spR (off, ds, ss, u) e = some p := hp
  unfold spG Xc
  rw [hR]
  exact ⟨rfl, hr⟩
 have er : ∀ c : Int, aC m9 f41 7 [(10, [2, 4, 6, 8, 38, 39, 40])] [.d (Y0) (off, ds, ss, ()), .d (.slice aa) e] [] ah = yX c -> spG (off, ds, ss, u) e = true /\ mR (Xc (off, ds, ss, u) e) = true := fun c hc => by
  refine fin ((0, [], [], ()), c) ?_ rfl
  rw [hc]
  rfl
 cases hf : gC (off, ds, ss, PUnit.unit) with
 | false => rw [hf] at q; exact er 1 q
 | true =>
  obtain ⟨c1, c2, _⟩ := pc hf
  rw [hf, Bool.not_true, ax, aD (show ds.length <= 2147483648 /\ e.length <= 2147483648 from ⟨h1, he⟩), ai] at q
  cases hc : dg ds e != 0 with
  | true => rw [hc, ai] at q; exact er _ q
  | false =>
   have hb6 : (y9 ds e).length <= 6 := by
    have h0 : (dg ds e == 0) = true := by simpa using hc
    unfold y9
    rw [h0]
    exact Hd h0
   rw [hc, ax, aD (show (y9 ds e).length <= 9223372036854775807 by omega), ai] at q
   cases hq : !y9 ds e == e with
   | true => rw [hq, ai] at q; exact er 4 q
   | false =>
    rw [hq, ax, if_pos ⟨Int.natCast_nonneg _, by simp only [aK]; omega⟩, aB] at q
    obtain ⟨D, hD, hr⟩ := acZ (off := off) (D := List.replicate (Int.ofNat (y9 ds e).length).toNat 0) c2 (VH hc) (by omega) (List.length_replicate)
    have q2 := q.trans ((aht (off, ds, ss, ()) (y9 ds e) _).trans hr)
    refine fin ((off, y9 ds e, D, ()), 0) ?_ (aD ⟨by show (y9 ds e).length <= _; omega, by show D.length <= _; omega⟩)
    rw [q2]
    rfl
noncomputable def CE : Code := bd f47
noncomputable def pg : Code := cL (cL (cR (cL (cR (cR (cR (cR (cR (cR (cR CE))))))))))
noncomputable def nW : Code := cL (cL (cR (cR (cL (cL (cR (cR (cL (cL (cR (cL (cR (cR (cR (cR (cR (cR (cR CE))))))))))))))))))
noncomputable def ac3 : Code := cR (cR (cR (cL (cL (cR (cL (cR (cR (cR (cR (cR (cR (cR CE)))))))))))))
noncomputable def bm : Cfg := ⟨85, 7, 0, [(8, [1, 6, 9, 10, 11, 12, 41, 42]), (11, [1, 6, 9, 10, 11, 12, 13, 41, 42, 48, 49, 50])], true⟩
noncomputable def uq : Code := bd f46
noncomputable def u5 : Code := cL (cL (cR (cL (cR (cR (cR (cR (cR uq))))))))
noncomputable def zb : Code := cL (cL (cR (cL (cR (cR (cL (cL (cR (cR (cL (cL (cR (cL (cR (cR (cR (cR (cR uq))))))))))))))))))
noncomputable def ahw : Code := cR (cR (cR (cL (cL (cR (cR (cL (cL (cR (cL (cR (cR (cR (cR (cR uq)))))))))))))))
noncomputable def bG : Cfg := ⟨73, 7, 0, [(6, [7, 8, 9, 10, 11, 32, 33, 34]), (10, [7, 8, 9, 10, 11, 13, 15, 32, 33, 34, 45, 46])], true⟩
noncomputable def ahx : Env := Sm.add 60 (ao Od)
theorem JE : ahx.Good := ix.add yO
theorem ac4 (d : af) (a : Int) : aC ahx f83 5 [] [.d (.slice aa) d, I a] [] ah = (if (0 : Int) <= 0 /\ 0 <= a /\ a <= Int.ofNat d.length then some (List.drop 0 (List.take a.toNat d)) else none).bind fun v0 => (if 0 <= a /\ a <= Int.ofNat d.length /\ Int.ofNat d.length <= Int.ofNat d.length then some (List.drop a.toNat (List.take (Int.ofNat d.length).toNat d)) else none).bind fun v1 => az [I (aJ v0), I (aJ v1)] := by kernel_rfl
def blF : List AV -> LHp -> Tq
 | [.d zS d, .d zI a], [] => .br (decide (0 <= a /\ a <= Int.ofNat d.length)) (.leaf (.ret [I (aJ (d.take a.toNat)), I (aJ (d.drop a.toNat))]) []) .no
 | _, _ => .no
theorem ac5 : bg 83 (ao blF) := by
 have h1 := bD (d := 5) (l := []) JE func83 call83
 refine aO fun args hs ae aH h' => ?_
 unfold blF at h'
 split at h'
 ·rename_i d a
  obtain ⟨hb, h2⟩ := Tq.br_no h'
  obtain ⟨b1, b2⟩ := aU hb
  have b2 : a <= Int.ofNat (List.length d) := b2
  refine h1.okC ((ac4 d a).trans (Eq.trans ?_ h2))
  rw [if_pos ⟨Int.le_refl _, b1, b2⟩, if_pos ⟨b1, b2, Int.le_refl _⟩, aB, aB, show (Int.ofNat (List.length d)).toNat = List.length d from rfl, List.take_length]
  rfl
 ·cases h'
noncomputable def blE : FnE := b8 [.slice aa, aa] (ao blF)
theorem O7 : bg 83 blE := bf ac5
theorem ac6 (a r : Int) : aC We f81 4 [] [I a, I r] [] ah = bif decide (a < 0) then az [I (i64.wrap (a + r))] else az [I a] := by kernel_rfl
def mxF : List AV -> LHp -> Tq
 | [.d zI a, .d zI r], [] => .leaf (.ret [I (nV a r)]) []
 | _, _ => .no
theorem O8 : bg 81 (ao mxF) := by
 have h1 : bg 81 (au We f81 4 []) := LX
 refine aO fun args hs ae aH h' => ?_
 unfold mxF at h'
 split at h'
 ·rename_i a r
  refine h1.okC ((ac6 a r).trans (Eq.trans ?_ h'))
  unfold nV
  show _ = (some (.ret [I (bif decide (a < 0) then i64.wrap (a + r) else a)], []) : Option (aq × LHp))
  cases decide (a < 0) <;> rfl
 ·cases h'
noncomputable def cD : Env := ((Sm.add 83 blE).add 59 (ao qO)).add 81 (ao mxF)
theorem JF : cD.Good := ((ix.add O7).add ig).add O8
theorem ac7 (op nm : ak) (ins : List (ak)) (out : ak) (ag : bn) (t : Int) (d x : af) (y : b9) (ts : List b9) : aC cD f47 7 [(8, [1, 6, 9, 10, 11, 12, 41, 42]), (11, [1, 6, 9, 10, 11, 12, 13, 41, 42, 48, 49, 50])] [cO op nm ins out ag, .d (.slice (Y0)) ((t, d, x, ()) :: y :: ts)] [] ah = bif decide (ag.length <= 9223372036854775807) then bif decide (0 <= nV (aT ag cG 0) (Int.ofNat d.length) /\ nV (aT ag cG 0) (Int.ofNat d.length) <= Int.ofNat d.length) then (idx d (nV (aT ag cG 0) (Int.ofNat d.length))).bind fun v2 => (if v2 = 0 then none else some (i64.wrap ((aJ (List.drop (nV (aT ag cG 0) (Int.ofNat d.length)).toNat d)).tdiv v2))).bind fun v3 => (hlp cD bm) pg _ { fr := aw 7 [(1, AV.d Y0.slice ((t, d, x, PUnit.unit) :: y :: ts)), (6, AV.op 0 [] 0), (9, I (aJ (List.drop (nV (aT ag cG 0) (Int.ofNat d.length)).toNat d))), (10, I v2), (11, I v3), (12, AV.nils), (41, I (aJ (List.take (nV (aT ag cG 0) (Int.ofNat d.length)).toNat d))), (42, I 0)], hp := [(0, aj.box (AV.d Y0 (t, d, x, PUnit.unit)))], nx := 1 } (aQ 0 (aX cD bm [8, 11] (hlp cD bm) (cR (cR (cR (cR (cR (cR (cR (cR CE)))))))) (aZ prog 0 f47.results.toList ah))) else none else none := (bq [8, 11] bm rfl).trans (by obtain ⟨hl, h⟩ := bc cD bm; rw [h]; kernel_rfl)
noncomputable def dE : Env := ((Sm.add 83 blE).add 59 (ao qO)).add 81 (ao mxF)
theorem JG : dE.Good := ((ix.add O7).add ig).add O8
theorem ac8 (op nm : ak) (ins : List (ak)) (out : ak) (ag : bn) (ts : List b9) (e : af) : aC dE f46 7 [(6, [7, 8, 9, 10, 11, 32, 33, 34]), (10, [7, 8, 9, 10, 11, 13, 15, 32, 33, 34, 45, 46])] [cO op nm ins out ag, .d (.slice (Y0)) ts, .d (.slice aa) e] [] ah = bif decide (ag.length <= 9223372036854775807) then bif decide (0 <= nV (aT ag cG 0) (Int.ofNat e.length) /\ nV (aT ag cG 0) (Int.ofNat e.length) <= Int.ofNat e.length) then (if 0 <= i64.wrap (aJ (List.take (nV (aT ag cG 0) (Int.ofNat e.length)).toNat e) * aJ (List.drop (nV (aT ag cG 0) (Int.ofNat e.length)).toNat e)) /\ i64.wrap (aJ (List.take (nV (aT ag cG 0) (Int.ofNat e.length)).toNat e) * aJ (List.drop (nV (aT ag cG 0) (Int.ofNat e.length)).toNat e)) <= 4294967296 then some (List.replicate (i64.wrap (aJ (List.take (nV (aT ag cG 0) (Int.ofNat e.length)).toNat e) * aJ (List.drop (nV (aT ag cG 0) (Int.ofNat e.length)).toNat e))).toNat 0) else none).bind fun v2 => (hlp dE bG) u5 _ { fr := aw 7 [(7, I (nV (aT ag cG 0) (Int.ofNat e.length))), (8, I (aJ (List.take (nV (aT ag cG 0) (Int.ofNat e.length)).toNat e))), (9, I (aJ (List.drop (nV (aT ag cG 0) (Int.ofNat e.length)).toNat e))), (10, AV.os 0 0), (11, I 0), (32, AV.d Y0.slice ts), (33, I (Int.ofNat ts.length)), (34, I 0)], hp := [(0, aj.arr 2 (aa) 0 false v2)], nx := 1 } (aQ 0 (aX dE bG [6, 10] (hlp dE bG) (cR (cR (cR (cR (cR (cR uq)))))) (aZ prog 0 f46.results.toList ah))) else none else none := (bq [6, 10] bG rfl).trans (by obtain ⟨hl, h⟩ := bc dE bG; rw [h]; kernel_rfl)
structure Mg where
 ts : List b9
 X : b9
 size : Int
 dA : Int
 inner : Int
 times : Int
 J : List Int
def ahy (g : Mg) (o : AV) : List (Nat × AV) := [(1, .d (.slice (Y0)) g.ts), (6, .op 0 [] 0), (9, I g.size), (10, I g.dA), (11, I g.inner), (12, o)]
def ahz (g : Mg) (oh : LHp) : LHp := (0, .box (.d (Y0) g.X)) :: oh
def O9 (g : Mg) (i : Int) (o : AV) (oh : LHp) (nx : Nat) : LSt := { fr := aw 7 (ahy g o ++ [(41, I g.times), (42, I i)]), hp := ahz g oh, nx := nx }
def Pa (g : Mg) (i j : Int) (o : AV) (oh : LHp) (nx : Nat) : LSt := { fr := aw 7 (ahy g o ++ [(13, I i), (41, I g.times), (42, I i), (48, .d (.slice aa) g.J), (49, I (Int.ofNat g.J.length)), (50, I j)]), hp := ahz g oh, nx := nx }
theorem Pb (x y : b9) (ts : List b9) (size dA inner times i : Int) (J : af) (n : Nat) {R : Type} (k : AEx -> LSt -> Option R) : lp cD bm pg (n + 1) (O9 ⟨x :: y :: ts, x, size, dA, inner, times, J⟩ i .nils [] 1) k = bif decide (i < times) then (hlp cD bm) nW _ { fr := aw 7 [(1, AV.d Y0.slice (x :: y :: ts)), (6, AV.op 0 [] 0), (9, I size), (10, I dA), (11, I inner), (12, AV.nils), (13, I i), (41, I times), (42, I i), (48, AV.d (aa).slice y.2.2.1), (49, I (Int.ofNat (List.length y.2.2.1))), (50, I 0)], hp := [(0, aj.box (AV.d Y0 x))], nx := 1 } (aQ 2 (aQ 1 (aX cD bm [8, 11] (hlp cD bm) ac3 (oE cD bm [8, 11] (hlp cD bm) pg n k)))) else k (AEx.exit 0) { fr := aw 7 [(1, AV.d Y0.slice (x :: y :: ts)), (6, AV.op 0 [] 0), (9, I size), (10, I dA), (11, I inner), (12, AV.nils), (41, I times), (42, I i), (43, B false)], hp := [(0, aj.box (AV.d Y0 x))], nx := 1 } := by
 rw [lY [8, 11]]
 obtain ⟨hl, h⟩ := bc cD bm
 rw [h]
 kernel_rfl
theorem Pc (x y : b9) (ts : List b9) (size dA inner times i : Int) (J o : af) (n : Nat) {R : Type} (k : AEx -> LSt -> Option R) : lp cD bm pg (n + 1) (O9 ⟨x :: y :: ts, x, size, dA, inner, times, J⟩ i (.os 1 0) [(1, .arr 2 aa 0 false o)] 2) k = bif decide (i < times) then (hlp cD bm) nW _ { fr := aw 7 [(1, AV.d Y0.slice (x :: y :: ts)), (6, AV.op 0 [] 0), (9, I size), (10, I dA), (11, I inner), (12, AV.os 1 0), (13, I i), (41, I times), (42, I i), (48, AV.d (aa).slice y.2.2.1), (49, I (Int.ofNat (List.length y.2.2.1))), (50, I 0)], hp := [(0, aj.box (AV.d Y0 x)), (1, aj.arr 2 (aa) 0 false o)], nx := 2 } (aQ 2 (aQ 1 (aX cD bm [8, 11] (hlp cD bm) ac3 (oE cD bm [8, 11] (hlp cD bm) pg n k)))) else k (AEx.exit 0) { fr := aw 7 [(1, AV.d Y0.slice (x :: y :: ts)), (6, AV.op 0 [] 0), (9, I size), (10, I dA), (11, I inner), (12, AV.os 1 0), (41, I times), (42, I i), (43, B false)], hp := [(0, aj.box (AV.d Y0 x)), (1, aj.arr 2 (aa) 0 false o)], nx := 2 } := by
 rw [lY [8, 11]]
 obtain ⟨hl, h⟩ := bc cD bm
 rw [h]
 kernel_rfl
noncomputable def qZ : AEx -> LSt -> Option (aq × LHp) := (aQ 0 (aX cD bm [8, 11] (hlp cD bm) (cR (cR (cR (cR (cR (cR (cR (cR CE)))))))) (aZ prog 0 f47.results.toList ah)))
noncomputable def JH (n : Nat) (k : AEx -> LSt -> Option (aq × LHp)) : AEx -> LSt -> Option (aq × LHp) := (aQ 2 (aQ 1 (aX cD bm [8, 11] (hlp cD bm) ac3 (oE cD bm [8, 11] (hlp cD bm) pg n k))))
theorem Pd (ts : List b9) (t : Int) (d x : af) (size dA inner times i j : Int) (J : af) (m : Nat) (n : Nat) : lp cD bm nW (n + 1) (Pa ⟨ts, (t, d, x, ()), size, dA, inner, times, J⟩ i j .nils [] 1) (JH m qZ) = bif decide (j < Int.ofNat J.length) then (idx J j).bind fun v1 => bif decide (v1 < 0) then bif decide (i64.wrap (v1 + dA) < 0) then az [AV.nils, I 8] else bif decide (i64.wrap (v1 + dA) >= dA) then az [AV.nils, I 8] else (if 0 <= i64.wrap (i64.wrap (i * size) + i64.wrap (i64.wrap (v1 + dA) * inner)) /\ i64.wrap (i64.wrap (i * size) + i64.wrap (i64.wrap (v1 + dA) * inner)) <= i64.wrap (i64.wrap (i64.wrap (i * size) + i64.wrap (i64.wrap (v1 + dA) * inner)) + inner) /\ i64.wrap (i64.wrap (i64.wrap (i * size) + i64.wrap (i64.wrap (v1 + dA) * inner)) + inner) <= Int.ofNat x.length then some (List.drop (i64.wrap (i64.wrap (i * size) + i64.wrap (i64.wrap (v1 + dA) * inner))).toNat (List.take (i64.wrap (i64.wrap (i64.wrap (i * size) + i64.wrap (i64.wrap (v1 + dA) * inner)) + inner)).toNat x)) else none).bind fun v5 => (app [] v5).bind fun v6 => lp cD bm nW n { fr := aw 7 [(1, AV.d Y0.slice ts), (6, AV.op 0 [] 0), (9, I size), (10, I dA), (11, I inner), (12, AV.os 1 0), (13, I i), (41, I times), (42, I i), (48, AV.d (aa).slice J), (49, I (Int.ofNat J.length)), (50, I (i64.wrap (j + 1)))], hp := [(0, aj.box (AV.d Y0 (t, d, x, PUnit.unit))), (1, aj.arr 2 (aa) 0 false v6)], nx := 2 } (JH m qZ) else bif decide (v1 < 0) then az [AV.nils, I 8] else bif decide (v1 >= dA) then az [AV.nils, I 8] else (if 0 <= i64.wrap (i64.wrap (i * size) + i64.wrap (v1 * inner)) /\ i64.wrap (i64.wrap (i * size) + i64.wrap (v1 * inner)) <= i64.wrap (i64.wrap (i64.wrap (i * size) + i64.wrap (v1 * inner)) + inner) /\ i64.wrap (i64.wrap (i64.wrap (i * size) + i64.wrap (v1 * inner)) + inner) <= Int.ofNat x.length then some (List.drop (i64.wrap (i64.wrap (i * size) + i64.wrap (v1 * inner))).toNat (List.take (i64.wrap (i64.wrap (i64.wrap (i * size) + i64.wrap (v1 * inner)) + inner)).toNat x)) else none).bind fun v5 => (app [] v5).bind fun v6 => lp cD bm nW n { fr := aw 7 [(1, AV.d Y0.slice ts), (6, AV.op 0 [] 0), (9, I size), (10, I dA), (11, I inner), (12, AV.os 1 0), (13, I i), (41, I times), (42, I i), (48, AV.d (aa).slice J), (49, I (Int.ofNat J.length)), (50, I (i64.wrap (j + 1)))], hp := [(0, aj.box (AV.d Y0 (t, d, x, PUnit.unit))), (1, aj.arr 2 (aa) 0 false v6)], nx := 2 } (JH m qZ) else lpH cD bm [8, 11] (hlp cD bm) pg m { fr := aw 7 [(1, AV.d Y0.slice ts), (6, AV.op 0 [] 0), (9, I size), (10, I dA), (11, I inner), (12, AV.nils), (41, I times), (42, I (i64.wrap (i + 1)))], hp := [(0, aj.box (AV.d Y0 (t, d, x, PUnit.unit)))], nx := 1 } qZ := by kernel_rfl
theorem Pe (ts : List b9) (t : Int) (d x : af) (size dA inner times i j : Int) (J o : af) (m : Nat) (n : Nat) : lp cD bm nW (n + 1) (Pa ⟨ts, (t, d, x, ()), size, dA, inner, times, J⟩ i j (.os 1 0) [(1, .arr 2 aa 0 false o)] 2) (JH m qZ) = bif decide (j < Int.ofNat J.length) then (idx J j).bind fun v1 => bif decide (v1 < 0) then bif decide (i64.wrap (v1 + dA) < 0) then az [AV.nils, I 8] else bif decide (i64.wrap (v1 + dA) >= dA) then az [AV.nils, I 8] else (if 0 <= i64.wrap (i64.wrap (i * size) + i64.wrap (i64.wrap (v1 + dA) * inner)) /\ i64.wrap (i64.wrap (i * size) + i64.wrap (i64.wrap (v1 + dA) * inner)) <= i64.wrap (i64.wrap (i64.wrap (i * size) + i64.wrap (i64.wrap (v1 + dA) * inner)) + inner) /\ i64.wrap (i64.wrap (i64.wrap (i * size) + i64.wrap (i64.wrap (v1 + dA) * inner)) + inner) <= Int.ofNat x.length then some (List.drop (i64.wrap (i64.wrap (i * size) + i64.wrap (i64.wrap (v1 + dA) * inner))).toNat (List.take (i64.wrap (i64.wrap (i64.wrap (i * size) + i64.wrap (i64.wrap (v1 + dA) * inner)) + inner)).toNat x)) else none).bind fun v5 => (app o v5).bind fun v6 => lp cD bm nW n { fr := aw 7 [(1, AV.d Y0.slice ts), (6, AV.op 0 [] 0), (9, I size), (10, I dA), (11, I inner), (12, AV.os 1 0), (13, I i), (41, I times), (42, I i), (48, AV.d (aa).slice J), (49, I (Int.ofNat J.length)), (50, I (i64.wrap (j + 1)))], hp := [(0, aj.box (AV.d Y0 (t, d, x, PUnit.unit))), (1, aj.arr 2 (aa) 0 false v6)], nx := 2 } (JH m qZ) else bif decide (v1 < 0) then az [AV.nils, I 8] else bif decide (v1 >= dA) then az [AV.nils, I 8] else (if 0 <= i64.wrap (i64.wrap (i * size) + i64.wrap (v1 * inner)) /\ i64.wrap (i64.wrap (i * size) + i64.wrap (v1 * inner)) <= i64.wrap (i64.wrap (i64.wrap (i * size) + i64.wrap (v1 * inner)) + inner) /\ i64.wrap (i64.wrap (i64.wrap (i * size) + i64.wrap (v1 * inner)) + inner) <= Int.ofNat x.length then some (List.drop (i64.wrap (i64.wrap (i * size) + i64.wrap (v1 * inner))).toNat (List.take (i64.wrap (i64.wrap (i64.wrap (i * size) + i64.wrap (v1 * inner)) + inner)).toNat x)) else none).bind fun v5 => (app o v5).bind fun v6 => lp cD bm nW n { fr := aw 7 [(1, AV.d Y0.slice ts), (6, AV.op 0 [] 0), (9, I size), (10, I dA), (11, I inner), (12, AV.os 1 0), (13, I i), (41, I times), (42, I i), (48, AV.d (aa).slice J), (49, I (Int.ofNat J.length)), (50, I (i64.wrap (j + 1)))], hp := [(0, aj.box (AV.d Y0 (t, d, x, PUnit.unit))), (1, aj.arr 2 (aa) 0 false v6)], nx := 2 } (JH m qZ) else lpH cD bm [8, 11] (hlp cD bm) pg m { fr := aw 7 [(1, AV.d Y0.slice ts), (6, AV.op 0 [] 0), (9, I size), (10, I dA), (11, I inner), (12, AV.os 1 0), (41, I times), (42, I (i64.wrap (i + 1)))], hp := [(0, aj.box (AV.d Y0 (t, d, x, PUnit.unit))), (1, aj.arr 2 (aa) 0 false o)], nx := 2 } qZ := by kernel_rfl
def avG : Option (af) -> AV
 | none => .nils
 | some _ => .os 1 0
def ohG : Option (af) -> LHp
 | none => []
 | some o => [(1, .arr 2 aa 0 false o)]
def nxG : Option (af) -> Nat
 | none => 1
 | some _ => 2
def JI (g : Mg) (i : Int) (o : Option (af)) : LSt := O9 g i (avG o) (ohG o) (nxG o)
def EO (g : Mg) (i j : Int) (o : Option (af)) : LSt := Pa g i j (avG o) (ohG o) (nxG o)
def gaQ (x : af) (r : Option (aq × LHp)) : Prop := r = some (.ret [.nils, I 8], []) \/ r = some (.ret [.nils, I 0], []) \/ ∃ o : af, o.length <= 4294967296 /\ (∀ v ∈ o, v ∈ x) /\ r = some (.ret [.os 0 0, I 0], [(0, .arr 2 aa 0 false o)])
structure JJ (g : Mg) (tN dN cN : Nat) : Prop where
 ht : g.times = (tN : Int)
 hd : g.dA = (dN : Int)
 hc : g.inner = (cN : Int)
 hs : g.size = ((dN * cN : Nat) : Int)
 hx : List.length g.X.2.2.1 = tN * (dN * cN)
 hb : tN * (dN * cN) <= 65536
 h1 : 1 <= dN
 hJ : g.J.length <= 65536
def gaI (x : af) (m c : Nat) (i j : Nat) (o : Option (af)) : Prop := (∀ v ∈ o.getD [], v ∈ x) /\ (o.getD []).length = (i * m + j) * c
theorem EP {x : af} {F c : Nat} (h : F + c <= x.length) : ((x.take (F + c)).drop F).length = c /\ ∀ v ∈ (x.take (F + c)).drop F, v ∈ x := by
 refine ⟨?_, fun v hv => List.mem_of_mem_take (List.mem_of_mem_drop hv)⟩
 rw [List.length_drop, List.length_take]
 omega
theorem Xd {g : Mg} {tN dN cN i z : Nat} (h : JJ g tN dN cN) (hi : i < tN) (hz : z < dN) :
  i64.wrap (i64.wrap ((i : Int) * g.size) + i64.wrap ((z : Int) * g.inner)) = ((i * (dN * cN) + z * cN : Nat) : Int) /\ i64.wrap (((i * (dN * cN) + z * cN : Nat) : Int) + g.inner) = ((i * (dN * cN) + z * cN + cN : Nat) : Int) /\ i * (dN * cN) + z * cN + cN <= List.length g.X.2.2.1 := by
 have r1 := p9 (C := dN * cN) hi
 have r2 := p9 (C := cN) hz
 have hb := h.hb
 have hx := h.hx
 rw [h.hs, h.hc]
 have e1 : (i : Int) * ((dN * cN : Nat) : Int) = ((i * (dN * cN) : Nat) : Int) := by push_cast; rfl
 have e2 : (z : Int) * (cN : Int) = ((z * cN : Nat) : Int) := by push_cast; rfl
 rw [e1, e2]
 generalize i * (dN * cN) = P at *
 generalize z * cN = Z at *
 generalize dN * cN = S at *
 generalize tN * S = W at *
 rw [aI (n := (P : Int)) (by omega) (by omega), aI (n := (Z : Int)) (by omega) (by omega), aI (by omega) (by omega), aI (by omega) (by omega)]
 omega
theorem ada {g : Mg} {tN dN cN i j : Nat} (h : JJ g tN dN cN) (hi : i < tN) (hj : j < g.J.length) : (i * g.J.length + j) * cN + cN <= 4294967296 := by
 have r1 := p9 (C := g.J.length) hi
 have hJ := h.hJ
 have hb := h.hb
 have h1 := h.h1
 have a1 : tN * cN <= 65536 := Nat.le_trans (Nat.mul_le_mul_left tN (Nat.le_mul_of_pos_left cN h1)) hb
 have a2 : (i * g.J.length + j + 1) * cN <= (tN * g.J.length) * cN := Nat.mul_le_mul_right cN (by omega)
 have a3 : (tN * g.J.length) * cN = g.J.length * (tN * cN) := by rw [Nat.mul_comm tN, Nat.mul_assoc]
 have a4 : g.J.length * (tN * cN) <= 65536 * 65536 := Nat.mul_le_mul hJ a1
 rw [Nat.add_mul, Nat.one_mul] at a2
 omega
theorem adb {g : Mg} {tN dN cN : Nat} (h : JJ g tN dN cN) : (tN * g.J.length + 0) * cN <= 4294967296 := by
 have hJ := h.hJ
 have a1 : tN * cN <= 65536 := Nat.le_trans (Nat.mul_le_mul_left tN (Nat.le_mul_of_pos_left cN h.h1)) h.hb
 have a3 : (tN * g.J.length) * cN = g.J.length * (tN * cN) := by rw [Nat.mul_comm tN, Nat.mul_assoc]
 have a4 : g.J.length * (tN * cN) <= 65536 * 65536 := Nat.mul_le_mul hJ a1
 rw [Nat.add_zero, a3]
 omega
theorem ahB {ts : List b9} {t : Int} {d x : af} {size dA inner times : Int} {J : af} {tN dN cN : Nat} (h : JJ ⟨ts, (t, d, x, ()), size, dA, inner, times, J⟩ tN dN cN) {i : Nat} (hi : i < tN) {m : Nat}
  (hnext : ∀ o, gaI x J.length cN (i + 1) 0 o -> gaQ x (lp cD bm pg m (JI ⟨ts, (t, d, x, ()), size, dA, inner, times, J⟩ (i64.wrap ((i : Int) + 1)) o) qZ)) {o : Option (af)} (ho : gaI x J.length cN i 0 o) :
  gaQ x (lp cD bm nW fu (EO ⟨ts, (t, d, x, ()), size, dA, inner, times, J⟩ (i : Int) 0 o) (JH m qZ)) := by
 have hm : maxLen = 9223372036854775807 := by decide
 have hJ := h.hJ
 have hJ : J.length <= 65536 := hJ
 have hlim : lim = 4294967296 := rfl
 refine VE (xs := J) (T := fun n s => lp cD bm nW n s (JH m qZ)) (st := fun (j : Int) (o : Option (af)) => EO ⟨ts, (t, d, x, ()), size, dA, inner, times, J⟩ (i : Int) j o) (Q := gaQ x) (fun (j : Nat) (o : Option (af)) => gaI x J.length cN i j o) (by omega) ?_ ?_ ho
 ·intro j o v n hI hj gx gi hw hd
  obtain ⟨hI1, CR⟩ := hI
  have hl := ada h hi hj
  have hl : (i * J.length + j) * cN + cN <= 4294967296 := hl
  have eL : (i * J.length + (j + 1)) * cN = (i * J.length + j) * cN + cN := by rw [← Nat.add_assoc, Nat.add_mul _ 1, Nat.one_mul]
  have hdA : dA = (dN : Int) := h.hd
  cases o with
  | none =>
   have hs := Pd ts t d x size dA inner times (i : Int) (j : Int) J m n
   rw [hd, ai, gi, aB, hw] at hs
   have go : ∀ z : Int, ¬ z < 0 -> ¬ z >= dA -> ∀ f : List Int -> Option (aq × LHp), ∃ a' : af, gaI x J.length cN i (j + 1) (some a') /\ ((if 0 <= i64.wrap (i64.wrap ((i : Int) * size) + i64.wrap (z * inner)) /\ i64.wrap (i64.wrap ((i : Int) * size) + i64.wrap (z * inner)) <= i64.wrap (i64.wrap (i64.wrap ((i : Int) * size) + i64.wrap (z * inner)) + inner) /\ i64.wrap (i64.wrap (i64.wrap ((i : Int) * size) + i64.wrap (z * inner)) + inner) <= Int.ofNat x.length then some (List.drop (i64.wrap (i64.wrap ((i : Int) * size) + i64.wrap (z * inner))).toNat (List.take (i64.wrap (i64.wrap (i64.wrap ((i : Int) * size) + i64.wrap (z * inner)) + inner)).toNat x)) else none).bind fun v5 => (app [] v5).bind f) = f a' := fun z z1 z2 f => by
    obtain ⟨zN, rfl⟩ : ∃ zN : Nat, z = (zN : Int) := ⟨z.toNat, by omega⟩
    obtain ⟨e1, e2, e3⟩ := Xd h hi (show zN < dN by omega)
    have e1 : i64.wrap (i64.wrap ((i : Int) * size) + i64.wrap ((zN : Int) * inner)) = ((i * (dN * cN) + zN * cN : Nat) : Int) := e1
    have e2 : i64.wrap (((i * (dN * cN) + zN * cN : Nat) : Int) + inner) = ((i * (dN * cN) + zN * cN + cN : Nat) : Int) := e2
    have e3 : i * (dN * cN) + zN * cN + cN <= x.length := e3
    rw [e1, e2]
    generalize i * (dN * cN) + zN * cN = F at *
    rw [if_pos (by simp only [aK]; omega), aB, Int.toNat_natCast, Int.toNat_natCast]
    obtain ⟨c1, c2⟩ := EP e3
    have CR : (0 : Nat) = (i * J.length + j) * cN := CR
    refine ⟨_, ⟨c2, ?_⟩, by rw [dI (by rw [c1, hlim]; simp only [List.length_nil]; omega)]; rfl⟩
    show ((x.take (F + cN)).drop F).length = _
    rw [c1, eL, ← CR, Nat.zero_add]
   cases h1 : decide (v < 0) with
   | true =>
    rw [h1, ai] at hs
    by_cases z1 : i64.wrap (v + dA) < 0
    ·rw [aD z1, ai] at hs; exact .inr (.inl hs)
    ·rw [bU z1, ax] at hs
     by_cases z2 : i64.wrap (v + dA) >= dA
     ·rw [aD z2, ai] at hs; exact .inr (.inl hs)
     ·rw [bU z2, ax] at hs
      obtain ⟨a', ha, hf⟩ := go _ z1 z2 _
      exact .inl ⟨some a', ha, hs.trans hf⟩
   | false =>
    rw [h1, ax] at hs
    by_cases z2 : v >= dA
    ·rw [aD z2, ax, ai] at hs; exact .inr (.inl hs)
    ·rw [bU z2, ax, ax] at hs
     obtain ⟨a', ha, hf⟩ := go v (nz h1) z2 _
     exact .inl ⟨some a', ha, hs.trans hf⟩
  | some o =>
   have hs := Pe ts t d x size dA inner times (i : Int) (j : Int) J o m n
   rw [hd, ai, gi, aB, hw] at hs
   have go : ∀ z : Int, ¬ z < 0 -> ¬ z >= dA -> ∀ f : List Int -> Option (aq × LHp), ∃ a' : af, gaI x J.length cN i (j + 1) (some a') /\ ((if 0 <= i64.wrap (i64.wrap ((i : Int) * size) + i64.wrap (z * inner)) /\ i64.wrap (i64.wrap ((i : Int) * size) + i64.wrap (z * inner)) <= i64.wrap (i64.wrap (i64.wrap ((i : Int) * size) + i64.wrap (z * inner)) + inner) /\ i64.wrap (i64.wrap (i64.wrap ((i : Int) * size) + i64.wrap (z * inner)) + inner) <= Int.ofNat x.length then some (List.drop (i64.wrap (i64.wrap ((i : Int) * size) + i64.wrap (z * inner))).toNat (List.take (i64.wrap (i64.wrap (i64.wrap ((i : Int) * size) + i64.wrap (z * inner)) + inner)).toNat x)) else none).bind fun v5 => (app o v5).bind f) = f a' := fun z z1 z2 f => by
    obtain ⟨zN, rfl⟩ : ∃ zN : Nat, z = (zN : Int) := ⟨z.toNat, by omega⟩
    obtain ⟨e1, e2, e3⟩ := Xd h hi (show zN < dN by omega)
    have e1 : i64.wrap (i64.wrap ((i : Int) * size) + i64.wrap ((zN : Int) * inner)) = ((i * (dN * cN) + zN * cN : Nat) : Int) := e1
    have e2 : i64.wrap (((i * (dN * cN) + zN * cN : Nat) : Int) + inner) = ((i * (dN * cN) + zN * cN + cN : Nat) : Int) := e2
    have e3 : i * (dN * cN) + zN * cN + cN <= x.length := e3
    rw [e1, e2]
    generalize i * (dN * cN) + zN * cN = F at *
    rw [if_pos (by simp only [aK]; omega), aB, Int.toNat_natCast, Int.toNat_natCast]
    obtain ⟨c1, c2⟩ := EP e3
    have CR : o.length = (i * J.length + j) * cN := CR
    refine ⟨_, ⟨?_, ?_⟩, by rw [dI (by rw [c1, hlim]; omega)]; rfl⟩
    ·intro w hw
     rcases List.mem_append.1 hw with hw | hw
     ·exact hI1 w hw
     ·exact c2 w hw
    ·show (o ++ (x.take (F + cN)).drop F).length = _
     rw [List.length_append, c1, eL, CR]
   cases h1 : decide (v < 0) with
   | true =>
    rw [h1, ai] at hs
    by_cases z1 : i64.wrap (v + dA) < 0
    ·rw [aD z1, ai] at hs; exact .inr (.inl hs)
    ·rw [bU z1, ax] at hs
     by_cases z2 : i64.wrap (v + dA) >= dA
     ·rw [aD z2, ai] at hs; exact .inr (.inl hs)
     ·rw [bU z2, ax] at hs
      obtain ⟨a', ha, hf⟩ := go _ z1 z2 _
      exact .inl ⟨some a', ha, hs.trans hf⟩
   | false =>
    rw [h1, ax] at hs
    by_cases z2 : v >= dA
    ·rw [aD z2, ax, ai] at hs; exact .inr (.inl hs)
    ·rw [bU z2, ax, ax] at hs
     obtain ⟨a', ha, hf⟩ := go v (nz h1) z2 _
     exact .inl ⟨some a', ha, hs.trans hf⟩
 ·intro o n hI hd
  have hI' : gaI x J.length cN (i + 1) 0 o := ⟨hI.1, by rw [hI.2, Nat.add_zero, Nat.add_mul i 1, Nat.one_mul]⟩
  have e : lp cD bm nW (n + 1) (EO ⟨ts, (t, d, x, ()), size, dA, inner, times, J⟩ (i : Int) ((J.length : Nat) : Int) o) (JH m qZ) = lp cD bm pg m (JI ⟨ts, (t, d, x, ()), size, dA, inner, times, J⟩ (i64.wrap ((i : Int) + 1)) o) qZ := by
   cases o with
   | none =>
    have hs := Pd ts t d x size dA inner times (i : Int) ((J.length : Nat) : Int) J m n
    rw [hd, ax] at hs
    exact hs.trans kZ
   | some o =>
    have hs := Pe ts t d x size dA inner times (i : Int) ((J.length : Nat) : Int) J o m n
    rw [hd, ax] at hs
    exact hs.trans kZ
  show gaQ x (lp cD bm nW (n + 1) (EO ⟨ts, (t, d, x, ()), size, dA, inner, times, J⟩ (i : Int) ((J.length : Nat) : Int) o) (JH m qZ))
  rw [e]
  exact hnext o hI'
theorem ahC (g : Mg) (i : Int) (o : Option (af)) (m : Nat) : hlp cD bm nW (aq × LHp) (EO g i 0 o) (JH m qZ) = lp cD bm nW fu (EO g i 0 o) (JH m qZ) := rfl
theorem ade {x y : b9} {ts : List b9} {size dA inner times : Int} {tN dN cN : Nat} (h : JJ ⟨x :: y :: ts, x, size, dA, inner, times, y.2.2.1⟩ tN dN cN) (hT : tN <= 65536) : ∀ (r i n : Nat) (o : Option (af)), i + r = tN -> r < n -> gaI x.2.2.1 (List.length y.2.2.1) cN i 0 o ->
  gaQ x.2.2.1 (lp cD bm pg n (JI ⟨x :: y :: ts, x, size, dA, inner, times, y.2.2.1⟩ (i : Int) o) qZ) := by
 have ht : times = (tN : Int) := h.ht
 have hb := h.hb
 have h1 := h.h1
 intro r
 induction r with
 | zero =>
  intro i n o hi hn hI
  obtain ⟨n, rfl⟩ : ∃ m', n = m' + 1 := ⟨n - 1, by omega⟩
  have hd : decide ((i : Int) < times) = false := bU (by omega)
  cases o with
  | none =>
   have hs := Pb x y ts size dA inner times (i : Int) y.2.2.1 n qZ
   rw [hd, ax] at hs
   exact .inr (.inl (hs.trans (by kernel_rfl)))
  | some o =>
   have hs := Pc x y ts size dA inner times (i : Int) y.2.2.1 o n qZ
   rw [hd, ax] at hs
   have hle := adb h
   obtain rfl : i = tN := by omega
   have CR : o.length = (i * List.length y.2.2.1 + 0) * cN := hI.2
   exact .inr (.inr ⟨o, by rw [CR]; exact hle, hI.1, hs.trans (by kernel_rfl)⟩)
 | succ r ih =>
  intro i n o hi hn hI
  obtain ⟨n, rfl⟩ : ∃ m', n = m' + 1 := ⟨n - 1, by omega⟩
  have hd : decide ((i : Int) < times) = true := aD (by omega)
  obtain ⟨x0, x1, x2, x3⟩ := x
  have e : lp cD bm pg (n + 1) (JI ⟨(x0, x1, x2, x3) :: y :: ts, (x0, x1, x2, x3), size, dA, inner, times, y.2.2.1⟩ (i : Int) o) qZ = lp cD bm nW fu (EO ⟨(x0, x1, x2, x3) :: y :: ts, (x0, x1, x2, x3), size, dA, inner, times, y.2.2.1⟩ (i : Int) 0 o) (JH n qZ) := by
   refine Eq.trans ?_ (ahC _ _ o n)
   cases o with
   | none =>
    have hs := Pb (x0, x1, x2, x3) y ts size dA inner times (i : Int) y.2.2.1 n qZ
    rw [hd, ai] at hs
    exact hs
   | some o =>
    have hs := Pc (x0, x1, x2, x3) y ts size dA inner times (i : Int) y.2.2.1 o n qZ
    rw [hd, ai] at hs
    exact hs
  rw [e]
  refine ahB (J := y.2.2.1) h (by omega) (m := n) (fun o ho => ?_) hI
  have hw2 : i64.wrap ((i : Int) + 1) = ((i + 1 : Nat) : Int) := by
   rw [aI (by omega) (by omega)]
   omega
  rw [hw2]
  exact ih (i + 1) n o (by omega) (by omega) ho
theorem JK {xs : af} (h1 : ∀ x ∈ xs, 1 <= x) (h2 : xs.length <= 6) (h3 : cH xs <= 65536) : ay xs = 0 := by
 unfold ay
 have e1 : decide (bk (fun d => decide (d < 1)) xs >= 0) = false := by
  rw [oC, List.any_eq_false]
  intro x hx
  have := h1 x hx
  simp only [decide_eq_true_eq]
  omega
 have e2 : decide (Int.ofNat xs.length > 6) = false := bU (by simp only [aK]; omega)
 have e3 : qL xs = false := bU (by omega)
 rw [e1, e2, e3]
 rfl
theorem lg {D : List Nat} (h1 : ∀ x ∈ D, 1 <= x) (h2 : D.length <= 6) (h3 : aE D <= 65536) : ay (ints D) = 0 /\ aJ (ints D) = (aE D : Nat) := by
 have hc : ay (ints D) = 0 := JK (fun x hx => by
  obtain ⟨y, hy, rfl⟩ := List.mem_map.1 hx
  have := h1 y hy
  omega) (by rw [dC]; exact h2) (by rw [jI]; omega)
 exact ⟨hc, (eQ hc).2.2.2.trans (jI D)⟩
theorem Pf {D : List Nat} {k : Nat} (h1 : ∀ x ∈ D, 1 <= x) (hk : k < D.length) : ∃ dN, D[k]? = some dN /\ 1 <= dN /\ aE D = aE (D.take k) * (dN * aE (D.drop (k + 1))) /\ aE (D.drop k) = dN * aE (D.drop (k + 1)) /\ 1 <= aE (D.take k) /\ 1 <= aE (D.drop (k + 1)) := by
 have hd : D.drop k = D[k] :: D.drop (k + 1) := List.drop_eq_getElem_cons hk
 have e : aE (D.drop k) = D[k] * aE (D.drop (k + 1)) := by rw [hd]; rfl
 refine ⟨D[k], List.getElem?_eq_getElem hk, h1 _ (List.getElem_mem hk), ?_, e, fa fun x hx => h1 x (List.mem_of_mem_take hx), fa fun x hx => h1 x (List.mem_of_mem_drop hx)⟩
 rw [← e, ← jf, List.take_append_drop]
theorem qb (D : List Nat) (k : Nat) : (ints D).take k = ints (D.take k) := by unfold ints; rw [List.map_take]
theorem mT (D : List Nat) (k : Nat) : (ints D).drop k = ints (D.drop k) := by unfold ints; rw [List.map_drop]
theorem zc {D : List Nat} (h1 : ∀ x ∈ D, 1 <= x) (h2 : D.length <= 6) (h3 : aE D <= 65536) (k : Nat) : aJ ((ints D).take k) = (aE (D.take k) : Nat) /\ aJ ((ints D).drop k) = (aE (D.drop k) : Nat) := by
 have p1 : 1 <= aE (D.take k) := fa fun x hx => h1 x (List.mem_of_mem_take hx)
 have p2 : 1 <= aE (D.drop k) := fa fun x hx => h1 x (List.mem_of_mem_drop hx)
 have e : aE D = aE (D.take k) * aE (D.drop k) := by rw [← jf, List.take_append_drop]
 have q1 : aE (D.take k) <= aE D := by rw [e]; exact Nat.le_mul_of_pos_right _ p2
 have q2 : aE (D.drop k) <= aE D := by rw [e]; exact Nat.le_mul_of_pos_left _ p1
 rw [qb, mT]
 exact ⟨(lg (fun x hx => h1 x (List.mem_of_mem_take hx)) (by rw [List.length_take]; omega) (by omega)).2, (lg (fun x hx => h1 x (List.mem_of_mem_drop hx)) (by rw [List.length_drop]; omega) (by omega)).2⟩
def gaO (r : Option (aq × LHp)) : Option (af × Int) := match r with
 | some (.ret [.d (.slice (.int .i64)) l, .d (.int .i64) e], []) => some (l, e)
 | _ => none
theorem Pg {r : Option (aq × LHp)} {p : af × Int} (h : gaO r = some p) : r = some (.ret [.d (.slice aa) p.1, I p.2], []) := by
 unfold gaO at h
 split at h
 ·cases h; rfl
 ·cases h
noncomputable def gaR (y : ek) (ts : List b9) : Option (af × Int) := gaO (gW [.slice aa, aa] (aC cD f47 7 [(8, [1, 6, 9, 10, 11, 12, 41, 42]), (11, [1, 6, 9, 10, 11, 12, 13, 41, 42, 48, 49, 50])] [.d (Y2) y, .d (.slice (Y0)) ts] [] ah))
noncomputable def gaG (y : ek) (ts : List b9) : Bool := (gaR y ts).isSome
noncomputable def Xe (y : ek) (ts : List b9) : af := ((gaR y ts).getD ([], 0)).1
noncomputable def gaC (y : ek) (ts : List b9) : Int := ((gaR y ts).getD ([], 0)).2
noncomputable def gaF : List AV -> LHp -> Tq
 | [.d Y2 y, .d (.slice Y0) ts], [] => .br (gaG y ts) (.leaf (.ret [.d (.slice aa) (Xe y ts), I (gaC y ts)]) []) .no
 | _, _ => .no
theorem adg : bg 47 (ao gaF) := by
 have h1 := bD (d := 7) (l := [(8, [1, 6, 9, 10, 11, 12, 41, 42]), (11, [1, 6, 9, 10, 11, 12, 13, 41, 42, 48, 49, 50])]) JF func47 call47
 refine aO fun args hs ae aH h' => ?_
 unfold gaF at h'
 split at h'
 ·rename_i y ts
  obtain ⟨hb, h2⟩ := Tq.br_no h'
  refine h1.okBQ [.slice aa, aa] (Eq.trans ?_ h2)
  unfold gaG at hb
  unfold Xe gaC
  cases hq : gaR y ts with
  | none => rw [hq] at hb; cases hb
  | some p => exact Pg hq
 ·cases h'
def lh : ak := cG
theorem ahF (g : Mg) : hlp cD bm pg (aq × LHp) (JI g 0 none) qZ = lp cD bm pg fu (JI g 0 none) qZ := rfl
theorem Ph {a b : Nat} (h : 1 <= a) : Int.tdiv ((a * b : Nat) : Int) (a : Int) = (b : Int) := by
 rw [Int.natCast_mul]
 exact Int.mul_tdiv_cancel_left _ (by omega)
theorem ahG {op nm : ak} {ins : List (ak)} {out : ak} {ag : bn} {t : Int} {d x : af} {w : b9} {ts : List b9} (hA : ag.length <= 2147483647) (hc : ay d = 0) (hx : (x.length : Int) = aJ d) (h0 : 0 <= nV (aT ag lh 0) (Int.ofNat d.length)) (h1 : nV (aT ag lh 0) (Int.ofNat d.length) < (d.length : Int)) (hw : List.length w.2.2.1 <= 65536) :
  gaG (op, nm, ins, out, ag, ()) ((t, d, x, ()) :: w :: ts) = true /\ (Xe (op, nm, ins, out, ag, ()) ((t, d, x, ()) :: w :: ts)).length <= 4294967296 /\ ∀ v ∈ Xe (op, nm, ins, out, ag, ()) ((t, d, x, ()) :: w :: ts), v ∈ x := by
 have e := ac7 op nm ins out ag t d x w ts
 unfold lh at h0 h1
 generalize nV (aT ag cG 0) (Int.ofNat d.length) = k at *
 obtain ⟨kN, rfl⟩ : ∃ kN : Nat, k = (kN : Int) := ⟨k.toNat, by omega⟩
 obtain ⟨D, rfl, _, d1, d2, d3⟩ := kL hc
 have hl := dC D
 have hk : kN < D.length := by omega
 obtain ⟨dN, g1, g2, g3, g4, g5, g6⟩ := Pf d1 hk
 obtain ⟨c1, c2⟩ := zc d1 d3 d2 kN
 have hxN : x.length = aE (D.take kN) * (dN * aE (D.drop (kN + 1))) := by
  rw [(lg d1 d3 d2).2, g3] at hx
  omega
 have gk : idx (ints D) (kN : Int) = some (dN : Int) := by
  unfold idx
  rw [if_pos (by omega), Int.toNat_natCast]
  unfold ints
  rw [List.getElem?_map, g1]
  rfl
 have hv : i64.wrap ((aE (D.drop kN) : Nat) : Int) = ((aE (D.drop kN) : Nat) : Int) := by
  have : aE (D.drop kN) <= 65536 := by
   rw [g4]
   refine Nat.le_trans (Nat.le_mul_of_pos_left _ g5) ?_
   rw [← g3]
   exact d2
  exact aI (by omega) (by omega)
 have hcN : aE (D.drop (kN + 1)) <= 65536 := by
  refine Nat.le_trans (Nat.le_mul_of_pos_left _ g2) (Nat.le_trans (Nat.le_mul_of_pos_left _ g5) ?_)
  rw [← g3]
  exact d2
 rw [aD (show ag.length <= 9223372036854775807 by omega), ai, aD (show 0 <= (kN : Int) /\ (kN : Int) <= Int.ofNat (ints D).length by simp only [aK]; omega), ai, gk, aB, if_neg (by omega), Int.toNat_natCast, c1, c2, g4, Ph g2, aI (n := ((aE (D.drop (kN + 1)) : Nat) : Int)) (by omega) (by omega), aB] at e
 have JY : JJ ⟨(t, ints D, x, ()) :: w :: ts, (t, ints D, x, ()), ((dN * aE (D.drop (kN + 1)) : Nat) : Int), (dN : Int), ((aE (D.drop (kN + 1)) : Nat) : Int), ((aE (D.take kN) : Nat) : Int), w.2.2.1⟩ (aE (D.take kN)) dN (aE (D.drop (kN + 1))) := ⟨rfl, rfl, rfl, rfl, hxN, by rw [← g3]; exact d2, g2, hw⟩
 have hT : aE (D.take kN) <= 65536 := by
  refine Nat.le_trans (Nat.le_mul_of_pos_right _ (Nat.mul_pos g2 g6)) ?_
  rw [← g3]
  exact d2
 have key := ade JY hT (aE (D.take kN)) 0 fu none (by omega) (by unfold fu; omega) ⟨fun v hv => (by cases hv), by show 0 = (0 * _ + 0) * _; rw [Nat.zero_mul, Nat.zero_add, Nat.zero_mul]⟩
 have e2 := e.trans (ahF ⟨(t, ints D, x, ()) :: w :: ts, (t, ints D, x, ()), ((dN * aE (D.drop (kN + 1)) : Nat) : Int), (dN : Int), ((aE (D.drop (kN + 1)) : Nat) : Int), ((aE (D.take kN) : Nat) : Int), w.2.2.1⟩)
 have fin : ∀ p : af × Int, gaO (gW [.slice aa, aa] (aC cD f47 7 [(8, [1, 6, 9, 10, 11, 12, 41, 42]), (11, [1, 6, 9, 10, 11, 12, 13, 41, 42, 48, 49, 50])] [cO op nm ins out ag, .d (.slice (Y0)) ((t, ints D, x, ()) :: w :: ts)] [] ah)) = some p -> p.1.length <= 4294967296 -> (∀ v ∈ p.1, v ∈ x) -> gaG (op, nm, ins, out, ag, ()) ((t, ints D, x, ()) :: w :: ts) = true /\ (Xe (op, nm, ins, out, ag, ()) ((t, ints D, x, ()) :: w :: ts)).length <= 4294967296 /\ ∀ v ∈ Xe (op, nm, ins, out, ag, ()) ((t, ints D, x, ()) :: w :: ts), v ∈ x := fun p hp hle hm => by
  have hR : gaR (op, nm, ins, out, ag, ()) ((t, ints D, x, ()) :: w :: ts) = some p := hp
  unfold gaG Xe
  rw [hR]
  exact ⟨rfl, hle, hm⟩
 rcases key with h | h | ⟨o, hle, ho, h⟩
 ·exact fin ([], 8) (by rw [e2.trans h]; rfl) (Nat.zero_le _) fun v hv => by cases hv
 ·exact fin ([], 0) (by rw [e2.trans h]; rfl) (Nat.zero_le _) fun v hv => by cases hv
 ·exact fin (o, 0) (by rw [e2.trans h]; rfl) hle ho
def ahH (ts : List b9) (a times size at_ : Int) : List (Nat × AV) := [(7, I a), (8, I times), (9, I size), (10, .os 0 0), (11, I at_)]
def wJ (ts : List b9) (a times size at_ i : Int) (o : af) : LSt := { fr := aw 7 (ahH ts a times size at_ ++ [(32, .d (.slice (Y0)) ts), (33, I (Int.ofNat ts.length)), (34, I i)]), hp := [(0, .arr 2 aa 0 false o)], nx := 1 }
theorem Xf (ts : List b9) (a times size at_ i : Int) (o : af) (n : Nat) {R : Type} (k : AEx -> LSt -> Option R) : lp dE bG u5 (n + 1) (wJ ts a times size at_ i o) k = bif decide (i < Int.ofNat ts.length) then (idx ts i).bind fun v1 => bif decide (0 <= a /\ a <= Int.ofNat (List.length v1.2.1)) then (hlp dE bG) zb _ { fr := aw 7 [(7, I a), (8, I times), (9, I size), (10, AV.os 0 0), (11, I at_), (13, AV.op 1 [] 0), (15, I (aJ (List.drop a.toNat v1.2.1))), (32, AV.d Y0.slice ts), (33, I (Int.ofNat ts.length)), (34, I i), (45, I times), (46, I 0)], hp := [(0, aj.arr 2 (aa) 0 false o), (1, aj.box (AV.d Y0 v1))], nx := 2 } (aQ 2 (aX dE bG [6, 10] (hlp dE bG) ahw (aQ 1 (aX dE bG [6, 10] (hlp dE bG) (cR (cR (cR (cL (cL (cR (cL (cR (cR (cR (cR (cR uq)))))))))))) (oE dE bG [6, 10] (hlp dE bG) u5 n k))))) else none else k (AEx.exit 0) { fr := aw 7 [(7, I a), (8, I times), (9, I size), (10, AV.os 0 0), (11, I at_), (32, AV.d Y0.slice ts), (33, I (Int.ofNat ts.length)), (34, I i), (35, B false)], hp := [(0, aj.arr 2 (aa) 0 false o)], nx := 1 } := by
 rw [lY [6, 10]]
 obtain ⟨hl, h⟩ := bc dE bG
 rw [h]
 kernel_rfl
def ur (ts : List b9) (a times size at_ i part j : Int) (X : b9) (o : af) : LSt := { fr := aw 7 (ahH ts a times size at_ ++ [(13, .op 1 [] 0), (15, I part), (32, .d (.slice (Y0)) ts), (33, I (Int.ofNat ts.length)), (34, I i), (45, I times), (46, I j)]), hp := [(0, .arr 2 aa 0 false o), (1, .box (.d (Y0) X))], nx := 2 }
noncomputable def CX : AEx -> LSt -> Option (aq × LHp) := (aQ 0 (aX dE bG [6, 10] (hlp dE bG) (cR (cR (cR (cR (cR (cR uq)))))) (aZ prog 0 f46.results.toList ah)))
noncomputable def Xg (n : Nat) (k : AEx -> LSt -> Option (aq × LHp)) : AEx -> LSt -> Option (aq × LHp) := (aQ 2 (aX dE bG [6, 10] (hlp dE bG) ahw (aQ 1 (aX dE bG [6, 10] (hlp dE bG) (cR (cR (cR (cL (cL (cR (cL (cR (cR (cR (cR (cR uq)))))))))))) (oE dE bG [6, 10] (hlp dE bG) u5 n k)))))
theorem Xh (ts : List b9) (a times size at_ i part j t : Int) (d x o : af) (m : Nat) (n : Nat) : lp dE bG zb (n + 1) (ur ts a times size at_ i part j (t, d, x, ()) o) (Xg m CX) = bif decide (j < times) then (win o.length (i64.wrap (i64.wrap (j * size) + at_)) (Int.ofNat o.length)).bind fun v1 => (if 0 <= i64.wrap (j * part) /\ i64.wrap (j * part) <= i64.wrap (i64.wrap (j + 1) * part) /\ i64.wrap (i64.wrap (j + 1) * part) <= Int.ofNat x.length then some (List.drop (i64.wrap (j * part)).toNat (List.take (i64.wrap (i64.wrap (j + 1) * part)).toNat x)) else none).bind fun v2 => bif true && (v1.1 + v1.2).ble o.length then lp dE bG zb n { fr := aw 7 [(7, I a), (8, I times), (9, I size), (10, AV.os 0 0), (11, I at_), (13, AV.op 1 [] 0), (15, I part), (32, AV.d Y0.slice ts), (33, I (Int.ofNat ts.length)), (34, I i), (45, I times), (46, I (i64.wrap (j + 1)))], hp := [(0, aj.arr 2 (aa) 0 false (sw o v1.1 v1.2 v2)), (1, aj.box (AV.d Y0 (t, d, x, PUnit.unit)))], nx := 2 } (Xg m CX) else none else lpH dE bG [6, 10] (hlp dE bG) u5 m { fr := aw 7 [(7, I a), (8, I times), (9, I size), (10, AV.os 0 0), (11, I (i64.wrap (at_ + part))), (32, AV.d Y0.slice ts), (33, I (Int.ofNat ts.length)), (34, I (i64.wrap (i + 1)))], hp := [(0, aj.arr 2 (aa) 0 false o)], nx := 1 } CX := by kernel_rfl
theorem VI {xs ys : af} {j q : Nat} (h : j + q <= xs.length) (hy : ys.length <= q) (p : Nat) : (sw xs j q ys)[p]? = if p < j then xs[p]? else if p < j + ys.length then ys[p - j]? else xs[p]? := by
 unfold sw
 rw [List.take_of_length_le hy, Nat.min_eq_left hy, List.append_assoc]
 by_cases h1 : p < j
 ·rw [if_pos h1, List.getElem?_append_left (by rw [List.length_take]; omega), List.getElem?_take_of_lt h1]
 ·rw [if_neg h1, List.getElem?_append_right (by rw [List.length_take]; omega), List.length_take, Nat.min_eq_left (by omega)]
  by_cases h2 : p < j + ys.length
  ·rw [if_pos h2, List.getElem?_append_left (by omega)]
  ·rw [if_neg h2, List.getElem?_append_right (by omega), List.getElem?_drop]
   congr 1
   omega
def CF (ts : List b9) (v : Int) : Prop := ∃ X ∈ ts, v ∈ X.2.2.1
def ccI (ts : List b9) (tN sN at_ part : Nat) (j : Nat) (o : af) : Prop := o.length = tN * sN /\ ∀ q r, q < tN -> r < sN -> (r < at_ \/ (r < at_ + part /\ q < j)) -> ∃ v, o[q * sN + r]? = some v /\ CF ts v
theorem ahI {ts : List b9} {a i t : Int} {d x : af} {tN sN ny pN : Nat} (hX : (t, d, x, ()) ∈ ts) (hx : x.length = tN * pN) (hp : 1 <= pN) (hs : ny + pN <= sN) (hb : tN * sN <= 65536) (ht1 : 1 <= tN) {m : Nat} {Q : Option (aq × LHp) -> Prop}
  (hnext : ∀ o, ccI ts tN sN (ny + pN) 0 0 o -> Q (lp dE bG u5 m (wJ ts a (tN : Int) (sN : Int) ((ny + pN : Nat) : Int) (i64.wrap (i + 1)) o) CX)) {o : af} (ho : ccI ts tN sN ny pN 0 o) :
  Q (lp dE bG zb fu (ur ts a (tN : Int) (sN : Int) (ny : Int) i (pN : Int) 0 (t, d, x, ()) o) (Xg m CX)) := by
 have hm : maxLen = 9223372036854775807 := by decide
 have hsb : sN <= 65536 := Nat.le_trans (Nat.le_mul_of_pos_left sN ht1) hb
 have htb : tN <= 65536 := Nat.le_trans (Nat.le_mul_of_pos_right tN (by omega)) hb
 refine ajO (N := tN) (T := fun n s => lp dE bG zb n s (Xg m CX)) (st := fun (j : Int) (o : af) => ur ts a (tN : Int) (sN : Int) (ny : Int) i (pN : Int) j (t, d, x, ()) o) (Q := Q) (fun (j : Nat) (o : af) => ccI ts tN sN ny pN j o) (by omega) ?_ ?_ ho
 ·intro j o n hI hj hw hd
  left
  obtain ⟨hI1, CR⟩ := hI
  have nc := Xh ts a (tN : Int) (sN : Int) (ny : Int) i (pN : Int) (j : Int) t d x o m n
  have r1 := p9 (C := sN) hj
  have r2 := p9 (C := pN) hj
  have r3 : tN * pN <= tN * sN := Nat.mul_le_mul_left tN (by omega)
  have r4 : (j + 1) * pN = j * pN + pN := by rw [Nat.add_mul, Nat.one_mul]
  have e1 : (j : Int) * (sN : Int) = ((j * sN : Nat) : Int) := by push_cast; rfl
  have e2 : (j : Int) * (pN : Int) = ((j * pN : Nat) : Int) := by push_cast; rfl
  have e3 : ((j + 1 : Nat) : Int) * (pN : Int) = ((j * pN + pN : Nat) : Int) := by rw [← r4]; push_cast; rfl
  rw [aD (show (j : Int) < (tN : Int) by omega), ai, hw, e1, e2, e3, aI (n := ((j * sN : Nat) : Int)) (by omega) (by omega), aI (n := ((j * pN : Nat) : Int)) (by omega) (by omega), aI (n := ((j * pN + pN : Nat) : Int)) (by omega) (by omega), show ((j * sN : Nat) : Int) + (ny : Int) = ((j * sN + ny : Nat) : Int) by push_cast; rfl, aI (n := ((j * sN + ny : Nat) : Int)) (by omega) (by omega)] at nc
  have hwin : win o.length ((j * sN + ny : Nat) : Int) (Int.ofNat o.length) = some (j * sN + ny, o.length - (j * sN + ny)) := by
   unfold win
   rw [aD (show (0 : Int) <= ((j * sN + ny : Nat) : Int) by omega), aD (show ((j * sN + ny : Nat) : Int) < Int.ofNat o.length by simp only [aK]; omega), aD (show Int.ofNat o.length <= (o.length : Int) by simp only [aK]; omega)]
   show some (_, _) = _
   rw [Int.toNat_natCast]
   congr 2
   simp only [aK]
   omega
  rw [hwin, aB, if_pos (by simp only [aK]; omega), aB, Int.toNat_natCast, Int.toNat_natCast] at nc
  obtain ⟨c1, c2⟩ := EP (x := x) (F := j * pN) (c := pN) (by omega)
  rw [show (true && (j * sN + ny + (o.length - (j * sN + ny))).ble o.length) = true from by rw [Bool.true_and]; exact Nat.ble_eq_true_of_le (by omega), ai] at nc
  refine ⟨_, ⟨(oc (by omega)).trans hI1, ?_⟩, nc⟩
  intro q r hq hr hc
  rw [VI (by omega) (by rw [c1]; omega), c1]
  have rq := p9 (C := sN) hq
  by_cases hqj : q = j
  ·subst hqj
   by_cases hra : r < ny
   ·rw [if_pos (by omega)]
    exact CR q r hq hr (.inl hra)
   ·rw [if_neg (by omega), if_pos (by omega)]
    have bJ : q * sN + r - (q * sN + ny) < (List.drop (q * pN) (List.take (q * pN + pN) x)).length := by rw [c1]; omega
    exact ⟨_, List.getElem?_eq_getElem bJ, _, hX, c2 _ (List.getElem_mem bJ)⟩
  ·have hout : q * sN + r < j * sN + ny \/ j * sN + ny + pN <= q * sN + r := by
    rcases Nat.lt_or_gt_of_ne hqj with h | h
    ·have := Nat.mul_le_mul_right sN (show q + 1 <= j by omega)
     rw [Nat.add_mul, Nat.one_mul] at this
     omega
    ·have := Nat.mul_le_mul_right sN (show j + 1 <= q by omega)
     rw [Nat.add_mul, Nat.one_mul] at this
     omega
   have hres : (if q * sN + r < j * sN + ny then o[q * sN + r]? else if q * sN + r < j * sN + ny + pN then (List.drop (j * pN) (List.take (j * pN + pN) x))[q * sN + r - (j * sN + ny)]? else o[q * sN + r]?) = o[q * sN + r]? := by
    rcases hout with h | h
    ·rw [if_pos h]
    ·rw [if_neg (by omega), if_neg (by omega)]
   rw [hres]
   exact CR q r hq hr (hc.imp id fun h => ⟨h.1, by omega⟩)
 ·intro o n hI hd
  have nc := Xh ts a (tN : Int) (sN : Int) (ny : Int) i (pN : Int) (tN : Int) t d x o m n
  rw [bU (show ¬ ((tN : Int) < (tN : Int)) by omega), ax] at nc
  have e : lp dE bG zb (n + 1) (ur ts a (tN : Int) (sN : Int) (ny : Int) i (pN : Int) (tN : Int) (t, d, x, ()) o) (Xg m CX) = lp dE bG u5 m (wJ ts a (tN : Int) (sN : Int) (i64.wrap ((ny : Int) + (pN : Int))) (i64.wrap (i + 1)) o) CX := nc.trans kZ
  show Q (lp dE bG zb (n + 1) (ur ts a (tN : Int) (sN : Int) (ny : Int) i (pN : Int) (tN : Int) (t, d, x, ()) o) (Xg m CX))
  rw [e, show (ny : Int) + (pN : Int) = ((ny + pN : Nat) : Int) by push_cast; rfl, aI (n := ((ny + pN : Nat) : Int)) (by omega) (by omega)]
  exact hnext o ⟨hI.1, fun q r hq hr hc => hI.2 q r hq hr (by omega)⟩
def ph (a : Nat) (X : b9) : Nat := aE ((List.drop a X.2.1).map Int.toNat)
def mj (a : Nat) (ts : List b9) : Nat := (ts.map (ph a)).sum
structure adh (ts : List b9) (a tN sN : Nat) : Prop where
 all : ∀ X ∈ ts, a <= List.length X.2.1 /\ aJ (List.drop a X.2.1) = (ph a X : Int) /\ 1 <= ph a X /\ List.length X.2.2.1 = tN * ph a X
 sum : mj a ts = sN
 hb : tN * sN <= 65536
 h1 : 1 <= tN
def ccQ (ts : List b9) (r : Option (aq × LHp)) : Prop := ∃ o : af, o.length <= 65536 /\ (∀ v ∈ o, CF ts v) /\ r = some (.ret [.os 0 0], [(0, .arr 2 aa 0 false o)])
theorem ahJ (ts : List b9) (a times size at_ i part : Int) (X : b9) (o : af) (m : Nat) : hlp dE bG zb (aq × LHp) (ur ts a times size at_ i part 0 X o) (Xg m CX) = lp dE bG zb fu (ur ts a times size at_ i part 0 X o) (Xg m CX) := rfl
theorem JL {a i : Nat} {ts : List b9} {X : b9} (hi : ts[i]? = some X) : mj a (ts.take (i + 1)) = mj a (ts.take i) + ph a X /\ mj a (ts.take (i + 1)) <= mj a ts := by
 obtain ⟨bJ, rfl⟩ := List.getElem?_eq_some_iff.1 hi
 constructor
 ·unfold mj
  rw [List.take_add_one, List.getElem?_eq_getElem bJ, List.map_append, List.sum_append]
  simp
 ·have e : mj a ts = mj a (ts.take (i + 1)) + mj a (ts.drop (i + 1)) := by
   unfold mj
   rw [← List.sum_append, ← List.map_append, List.take_append_drop]
  omega
theorem adi {ts : List b9} {aN tN sN : Nat} (h : adh ts aN tN sN) (hl : ts.length <= 65536) : ∀ (r i n : Nat) (o : af), i + r = ts.length -> r < n -> ccI ts tN sN (mj aN (ts.take i)) 0 0 o ->
  ccQ ts (lp dE bG u5 n (wJ ts (aN : Int) (tN : Int) (sN : Int) ((mj aN (ts.take i) : Nat) : Int) (i : Int) o) CX) := by
 intro r
 induction r with
 | zero =>
  intro i n o hi hn hI
  obtain ⟨n, rfl⟩ : ∃ m', n = m' + 1 := ⟨n - 1, by omega⟩
  obtain rfl : i = ts.length := by omega
  have hs := Xf ts (aN : Int) (tN : Int) (sN : Int) ((mj aN (ts.take ts.length) : Nat) : Int) (ts.length : Int) o n CX
  rw [bU (show ¬ ((ts.length : Int) < Int.ofNat ts.length) by simp only [aK]; omega), ax] at hs
  refine ⟨o, by rw [hI.1]; exact h.hb, fun v hv => ?_, hs.trans (by kernel_rfl)⟩
  obtain ⟨p, hp, rfl⟩ := List.mem_iff_getElem.1 hv
  rw [List.take_length, h.sum] at hI
  have hpN : p < tN * sN := by rw [← hI.1]; exact hp
  have J7 : 0 < sN := by
   rcases Nat.eq_zero_or_pos sN with h0 | h0
   ·rw [h0, Nat.mul_zero] at hpN; omega
   ·exact h0
  obtain ⟨v, h1, h2⟩ := hI.2 (p / sN) (p % sN) (Nat.div_lt_of_lt_mul (by rw [Nat.mul_comm]; exact hpN)) (Nat.mod_lt _ J7) (.inl (Nat.mod_lt _ J7))
  rw [Nat.mul_comm, Nat.div_add_mod, List.getElem?_eq_getElem hp] at h1
  cases h1
  exact h2
 | succ r ih =>
  intro i n o hi hn hI
  obtain ⟨n, rfl⟩ : ∃ m', n = m' + 1 := ⟨n - 1, by omega⟩
  have bJ : i < ts.length := by omega
  obtain ⟨X, gx⟩ : ∃ X, ts[i]? = some X := ⟨_, List.getElem?_eq_getElem bJ⟩
  have gi : idx ts (i : Int) = some X := by unfold idx; rw [if_pos (by omega), Int.toNat_natCast, gx]
  have hXm : X ∈ ts := List.mem_of_getElem? gx
  obtain ⟨p1, p2, p3, p4⟩ := h.all X hXm
  obtain ⟨s1, s2⟩ := JL (a := aN) gx
  have hsum := h.sum
  have hs := Xf ts (aN : Int) (tN : Int) (sN : Int) ((mj aN (ts.take i) : Nat) : Int) (i : Int) o n CX
  rw [aD (show ((i : Int) < Int.ofNat ts.length) by simp only [aK]; omega), ai, gi, aB, aD (show 0 <= (aN : Int) /\ (aN : Int) <= Int.ofNat (List.length X.2.1) by simp only [aK]; omega), ai, Int.toNat_natCast, p2] at hs
  obtain ⟨t, d, x, u⟩ := X
  have hj := hs.trans (ahJ ts (aN : Int) (tN : Int) (sN : Int) ((mj aN (ts.take i) : Nat) : Int) (i : Int) ((ph aN (t, d, x, u) : Nat) : Int) (t, d, x, ()) o n)
  rw [hj]
  refine ahI (Q := ccQ ts) hXm p4 p3 (by omega) h.hb h.h1 (m := n) (fun o ho => ?_) ⟨hI.1, fun q r hq hr hc => hI.2 q r hq hr (by omega)⟩
  rw [aI (n := (i : Int) + 1) (by omega) (by omega), ← s1]
  rw [← s1] at ho
  exact ih (i + 1) n o (by omega) (by omega) ho
noncomputable def ccR (y : ek) (ts : List b9) (e : af) : Option (af) := lsO (cK (.slice aa) (aC dE f46 7 [(6, [7, 8, 9, 10, 11, 32, 33, 34]), (10, [7, 8, 9, 10, 11, 13, 15, 32, 33, 34, 45, 46])] [.d (Y2) y, .d (.slice (Y0)) ts, .d (.slice aa) e] [] ah))
noncomputable def ccG (y : ek) (ts : List b9) (e : af) : Bool := (ccR y ts e).isSome
noncomputable def ccV (y : ek) (ts : List b9) (e : af) : af := (ccR y ts e).getD []
noncomputable def ccF : List AV -> LHp -> Tq
 | [.d Y2 y, .d (.slice Y0) ts, .d zS e], [] => .br (ccG y ts e) (.leaf (.ret [.d (.slice aa) (ccV y ts e)]) []) .no
 | _, _ => .no
theorem adl : bg 46 (ao ccF) := by
 have h1 := bD (d := 7) (l := [(6, [7, 8, 9, 10, 11, 32, 33, 34]), (10, [7, 8, 9, 10, 11, 13, 15, 32, 33, 34, 45, 46])]) JG func46 call46
 refine aO fun args hs ae aH h' => ?_
 unfold ccF at h'
 split at h'
 ·rename_i y ts e
  obtain ⟨hb, h2⟩ := Tq.br_no h'
  refine h1.okO (.slice aa) (Eq.trans ?_ h2)
  unfold ccG at hb
  unfold ccV
  cases hq : ccR y ts e with
  | none => rw [hq] at hb; cases hb
  | some l => exact CA hq
 ·cases h'
theorem ahK (ts : List b9) (a times size : Int) (o : af) : hlp dE bG u5 (aq × LHp) (wJ ts a times size 0 0 o) CX = lp dE bG u5 fu (wJ ts a times size 0 0 o) CX := rfl
theorem ahL {op nm : ak} {ins : List (ak)} {out : ak} {ag : bn} {ts : List b9} {e : af} {aN tN sN : Nat} (hA : ag.length <= 2147483647) (ha : nV (aT ag lh 0) (Int.ofNat e.length) = (aN : Int)) (hae : aN <= e.length)
  (ht : aJ (e.take aN) = (tN : Int)) (hs : aJ (e.drop aN) = (sN : Int)) (h : adh ts aN tN sN) (hl : ts.length <= 65536) :
  ccG (op, nm, ins, out, ag, ()) ts e = true /\ (ccV (op, nm, ins, out, ag, ()) ts e).length <= 65536 /\ ∀ v ∈ ccV (op, nm, ins, out, ag, ()) ts e, CF ts v := by
 have q := ac8 op nm ins out ag ts e
 have hb := h.hb
 unfold lh at ha
 rw [aD (show ag.length <= 9223372036854775807 by omega), ai, ha, aD (show 0 <= (aN : Int) /\ (aN : Int) <= Int.ofNat e.length by simp only [aK]; omega), ai, Int.toNat_natCast, ht, hs, show (tN : Int) * (sN : Int) = ((tN * sN : Nat) : Int) by push_cast; rfl, aI (n := ((tN * sN : Nat) : Int)) (by omega) (by omega), if_pos (by omega), aB, Int.toNat_natCast] at q
 have q2 := q.trans (ahK ts (aN : Int) (tN : Int) (sN : Int) (List.replicate (tN * sN) 0))
 obtain ⟨o, hle, ho, hr⟩ := adi h hl ts.length 0 fu (List.replicate (tN * sN) 0) (by omega) (by unfold fu; omega) ⟨List.length_replicate, fun q r hq hr hc => absurd hc (by unfold mj; simp)⟩
 have hR : ccR (op, nm, ins, out, ag, ()) ts e = some o := by
  show lsO (cK (.slice aa) (aC dE f46 7 [(6, [7, 8, 9, 10, 11, 32, 33, 34]), (10, [7, 8, 9, 10, 11, 13, 15, 32, 33, 34, 45, 46])] [cO op nm ins out ag, .d (.slice (Y0)) ts, .d (.slice aa) e] [] ah)) = _
  rw [q2.trans hr]
  rfl
 unfold ccG ccV
 rw [hR]
 exact ⟨rfl, hle, ho⟩
def noF : List AV -> LHp -> Tq := fun _ _ => .no
theorem VJ : bg 48 (ao noF) := ⟨fun _ _ _ => Tq.eq _ _, fun _ _ _ _ h => by cases h⟩
theorem VK : bg 49 (ao noF) := ⟨fun _ _ _ => Tq.eq _ _, fun _ _ _ _ h => by cases h⟩
def adm : List AV -> LHp -> Tq
 | [.d zS x], [] => .br (decide (x.length <= 2147483648)) (.leaf (.ret [.d (.slice aa) x]) []) .no
 | _, _ => .no
theorem VL : bg 40 (ao adm) := by
 have h1 : bg 40 (BM (.slice aa) (ao Ss)) := oQ FY
 refine aO fun args hs ae aH h' => ?_
 unfold adm at h'
 split at h'
 ·rename_i x
  obtain ⟨hb, h2⟩ := Tq.br_no h'
  refine h1.ok _ _ _ _ (Eq.trans ?_ h2)
  show (Tq.br (decide (x = [])) (.leaf (.ret [.emp]) []) (.br (decide (x.length <= 2147483648)) (.leaf (.ret [.os 0 0]) [(0, .arr 2 aa 0 false x)]) .no)).run _ = _
  rw [hb]
  cases x <;> rfl
 ·cases h'
noncomputable def ajW : Env := (((((((((Sm.add 39 bgE).add 42 Vi).add 41 spE).add 43 Vr).add 44 (ao mtF)).add 45 (ao msF)).add 46 (ao ccF)).add 47 (ao gaF)).add 48 (ao noF)).add 49 (ao noF)
noncomputable def wK : Env := ajW.add 40 (ao adm)
theorem JM : wK.Good := ((((((((((ix.add abR).add yT).add ac2).add yU).add acO).add acW).add adl).add adg).add VJ).add VK).add VL
theorem adn (op nm : ak) (ins : List (ak)) (out : ak) (ag : bn) (t : Int) (d x : af) (ts : List b9) : aC wK f19 7 [] [cO op nm ins out ag, .d (.slice (Y0)) ((t, d, x, ()) :: ts)] [] ah = bif Va (op, nm, ins, out, ag, PUnit.unit) ((t, d, x, PUnit.unit) :: ts) then bif EC (op, nm, ins, out, ag, PUnit.unit) ((t, d, x, PUnit.unit) :: ts) != 0 then az [(I 0).pr (AV.nils.pr (AV.nils.pr (AV.d Ty.unit PUnit.unit))), I (EC (op, nm, ins, out, ag, PUnit.unit) ((t, d, x, PUnit.unit) :: ts))] else bif op == xK then bif decide (x.length <= 2147483648) then az [(I (me (op, nm, ins, out, ag, PUnit.unit) ((t, d, x, PUnit.unit) :: ts)).2.1).pr ((AV.d (aa).slice (me (op, nm, ins, out, ag, PUnit.unit) ((t, d, x, PUnit.unit) :: ts)).2.2.1).pr ((AV.d (aa).slice x).pr (AV.d Ty.unit PUnit.unit))), I 0] else none else bif op == xN then bif decide (x.length <= 2147483648) then az [(I (me (op, nm, ins, out, ag, PUnit.unit) ((t, d, x, PUnit.unit) :: ts)).2.1).pr ((AV.d (aa).slice (me (op, nm, ins, out, ag, PUnit.unit) ((t, d, x, PUnit.unit) :: ts)).2.2.1).pr ((AV.d (aa).slice x).pr (AV.d Ty.unit PUnit.unit))), I 0] else none else bif op == xO then bif decide (x.length <= 2147483648) then az [(I (me (op, nm, ins, out, ag, PUnit.unit) ((t, d, x, PUnit.unit) :: ts)).2.1).pr ((AV.d (aa).slice (me (op, nm, ins, out, ag, PUnit.unit) ((t, d, x, PUnit.unit) :: ts)).2.2.1).pr ((AV.d (aa).slice x).pr (AV.d Ty.unit PUnit.unit))), I 0] else none else bif op == AQ then bif decide (x.length <= 2147483648) then az [(I (me (op, nm, ins, out, ag, PUnit.unit) ((t, d, x, PUnit.unit) :: ts)).2.1).pr ((AV.d (aa).slice (me (op, nm, ins, out, ag, PUnit.unit) ((t, d, x, PUnit.unit) :: ts)).2.2.1).pr ((AV.d (aa).slice x).pr (AV.d Ty.unit PUnit.unit))), I 0] else none else bif op == xL then bif decide (d.length <= 2147483648) then bif spG (uy d) (me (op, nm, ins, out, ag, PUnit.unit) ((t, d, x, PUnit.unit) :: ts)).2.2.1 then bif mR (Xc (uy d) (me (op, nm, ins, out, ag, PUnit.unit) ((t, d, x, PUnit.unit) :: ts)).2.2.1) then az [(I (me (op, nm, ins, out, ag, PUnit.unit) ((t, d, x, PUnit.unit) :: ts)).2.1).pr ((AV.d (aa).slice (me (op, nm, ins, out, ag, PUnit.unit) ((t, d, x, PUnit.unit) :: ts)).2.2.1).pr ((AV.d (aa).slice (EH (Xc (uy d) (me (op, nm, ins, out, ag, PUnit.unit) ((t, d, x, PUnit.unit) :: ts)).2.2.1) x)).pr (AV.d Ty.unit PUnit.unit))), I 0] else none else none else none else bif op == xM then bif aF ag && decide (d.length <= 2147483648) then az [(I (me (op, nm, ins, out, ag, PUnit.unit) ((t, d, x, PUnit.unit) :: ts)).2.1).pr ((AV.d (aa).slice (me (op, nm, ins, out, ag, PUnit.unit) ((t, d, x, PUnit.unit) :: ts)).2.2.1).pr ((AV.d (aa).slice (mtV ag d x)).pr (AV.d Ty.unit PUnit.unit))), I 0] else none else bif op == uR then bif msG (op, nm, ins, out, ag, PUnit.unit) (t, d, x, PUnit.unit) (me (op, nm, ins, out, ag, PUnit.unit) ((t, d, x, PUnit.unit) :: ts)).2.2.1 then az [(I (me (op, nm, ins, out, ag, PUnit.unit) ((t, d, x, PUnit.unit) :: ts)).2.1).pr ((AV.d (aa).slice (me (op, nm, ins, out, ag, PUnit.unit) ((t, d, x, PUnit.unit) :: ts)).2.2.1).pr ((AV.d (aa).slice (msV (op, nm, ins, out, ag, PUnit.unit) (t, d, x, PUnit.unit) (me (op, nm, ins, out, ag, PUnit.unit) ((t, d, x, PUnit.unit) :: ts)).2.2.1)).pr (AV.d Ty.unit PUnit.unit))), I 0] else none else bif op == uQ then bif ccG (op, nm, ins, out, ag, PUnit.unit) ((t, d, x, PUnit.unit) :: ts) (me (op, nm, ins, out, ag, PUnit.unit) ((t, d, x, PUnit.unit) :: ts)).2.2.1 then az [(I (me (op, nm, ins, out, ag, PUnit.unit) ((t, d, x, PUnit.unit) :: ts)).2.1).pr ((AV.d (aa).slice (me (op, nm, ins, out, ag, PUnit.unit) ((t, d, x, PUnit.unit) :: ts)).2.2.1).pr ((AV.d (aa).slice (ccV (op, nm, ins, out, ag, PUnit.unit) ((t, d, x, PUnit.unit) :: ts) (me (op, nm, ins, out, ag, PUnit.unit) ((t, d, x, PUnit.unit) :: ts)).2.2.1)).pr (AV.d Ty.unit PUnit.unit))), I 0] else none else bif op == oG then bif gaG (op, nm, ins, out, ag, PUnit.unit) ((t, d, x, PUnit.unit) :: ts) then bif gaC (op, nm, ins, out, ag, PUnit.unit) ((t, d, x, PUnit.unit) :: ts) != 0 then az [(I 0).pr (AV.nils.pr (AV.nils.pr (AV.d Ty.unit PUnit.unit))), I (gaC (op, nm, ins, out, ag, PUnit.unit) ((t, d, x, PUnit.unit) :: ts))] else az [(I (me (op, nm, ins, out, ag, PUnit.unit) ((t, d, x, PUnit.unit) :: ts)).2.1).pr ((AV.d (aa).slice (me (op, nm, ins, out, ag, PUnit.unit) ((t, d, x, PUnit.unit) :: ts)).2.2.1).pr ((AV.d (aa).slice (Xe (op, nm, ins, out, ag, PUnit.unit) ((t, d, x, PUnit.unit) :: ts))).pr (AV.d Ty.unit PUnit.unit))), I 0] else none else bif op == uS then none else bif op == nO then none else az [(I 0).pr (AV.nils.pr (AV.nils.pr (AV.d Ty.unit PUnit.unit))), I 5] else none := by kernel_rfl
def pj : ak := uR
def ml : ak := oG
def pn : ak := uQ
abbrev PY : Type := (Y3).den
theorem CG {op nm : ak} {ins : List (ak)} {out : ak} {ag : bn} {v : PY} {vs : List PY} (ho : op = pj \/ op = ml \/ op = pn) {p : Int × af} (h : Oa (op, nm, ins, out, ag, ()) (v :: vs) v.2.2.1 = some p) (h0 : zm (op, nm, ins, out, ag, ()) (v :: vs) = 0) :
  p.1 = 0 /\ p6 (op, nm, ins, out, ag, ()) (v :: vs) = p.2 := by
 have e : aC kd f105 8 [(56, [3, 132, 133, 134])] [fD (op, nm, ins, out, ag, ()) (v :: vs)] [] ah = bif WV (op, nm, ins, out, ag, ()) (v :: vs) v.2.2.1 then (bif mvC (op, nm, ins, out, ag, ()) (v :: vs) v.2.2.1 == 0 then some (.ret [.d (.slice aa) (mvL (op, nm, ins, out, ag, ()) (v :: vs) v.2.2.1)], []) else some (.panic 131 (mvC (op, nm, ins, out, ag, ()) (v :: vs) v.2.2.1), [])) else none := by
  rcases ho with rfl | rfl | rfl
  ·exact (yL pj nm ins out ag (v :: vs)).trans (by kernel_rfl)
  ·exact (yL ml nm ins out ag (v :: vs)).trans (by kernel_rfl)
  ·exact (yL pn nm ins out ag (v :: vs)).trans (by kernel_rfl)
 unfold WV mvC mvL at e
 rw [h] at e
 have hR : dmR (op, nm, ins, out, ag, ()) (v :: vs) = bif p.1 == 0 then some (0, p.2) else bif !(p.1 == 0) then some (p.1, []) else none := by
  unfold dmR
  rw [e]
  show wx (bif p.1 == 0 then _ else _) = _
  rw [yZ, y4, y5]
  rfl
 unfold zm at h0
 unfold p6
 rw [hR] at h0 ⊢
 cases hp : p.1 == 0 with
 | true => exact ⟨eq_of_beq hp, rfl⟩
 | false =>
  rw [hp] at h0
  have h0 : p.1 = 0 := h0
  rw [h0] at hp
  exact absurd hp (by decide)
theorem Pj {nm : ak} {ins : List (ak)} {out : ak} {ag : bn} {v : PY} {vs : List PY} (hA : aF ag = true) (hx : List.length v.2.2.1 <= 6) (h0 : zm (pj, nm, ins, out, ag, ()) (v :: vs) = 0) :
  Ei ag v.2.2.1 = true /\ p6 (pj, nm, ins, out, ag, ()) (v :: vs) = Ej ag v.2.2.1 := by
 have e : aC Jk f155 7 [] [fD (pj, nm, ins, out, ag, ()) (v :: vs), .d (.slice aa) v.2.2.1] [] ah = bif aF ag then (bif decide (List.length v.2.2.1 <= 2147483648) then (bif Ei ag v.2.2.1 then some (.ret [.d (.slice aa) (Ej ag v.2.2.1)], []) else some (.panic 131 4, [])) else none) else none := (yJ pj nm ins out ag (v :: vs) v.2.2.1).trans (by kernel_rfl)
 rw [hA, aD (show List.length v.2.2.1 <= 2147483648 by omega), ai, ai] at e
 cases hk : Ei ag v.2.2.1 with
 | true =>
  rw [hk, ai] at e
  have h := CG (p := (0, Ej ag v.2.2.1)) (.inl rfl) (by unfold Oa; rw [e]; rfl) h0
  exact ⟨rfl, h.2⟩
 | false =>
  rw [hk, ax] at e
  have h := CG (p := (4, [])) (.inl rfl) (by unfold Oa; rw [e]; rfl) h0
  exact PV h.1
theorem JN {nm : ak} {ins : List (ak)} {out : ak} {ag : bn} {v : PY} {vs : List PY} (hA : aF ag = true) (hx : List.length v.2.2.1 <= 6) (hv : (v :: vs).length <= 2147483648) (h0 : zm (pn, nm, ins, out, ag, ()) (v :: vs) = 0) :
  I9 ag (v :: vs) v.2.2.1 = true /\ p6 (pn, nm, ins, out, ag, ()) (v :: vs) = Ja ag (v :: vs) v.2.2.1 := by
 have e : aC Jk f155 7 [] [fD (pn, nm, ins, out, ag, ()) (v :: vs), .d (.slice aa) v.2.2.1] [] ah = bif aF ag then (bif decide (List.length v.2.2.1 <= 2147483648) then (bif decide (1 <= (v :: vs).length /\ (v :: vs).length <= 2147483648) then (bif I9 ag (v :: vs) v.2.2.1 then some (.ret [.d (.slice aa) (Ja ag (v :: vs) v.2.2.1)], []) else some (.panic 131 4, [])) else none) else none) else none := (yJ pn nm ins out ag (v :: vs) v.2.2.1).trans (by kernel_rfl)
 rw [hA, aD (show List.length v.2.2.1 <= 2147483648 by omega), aD (show 1 <= (v :: vs).length /\ (v :: vs).length <= 2147483648 from ⟨by simp, hv⟩), ai, ai, ai] at e
 cases hk : I9 ag (v :: vs) v.2.2.1 with
 | true =>
  rw [hk, ai] at e
  have h := CG (p := (0, Ja ag (v :: vs) v.2.2.1)) (.inr (.inr rfl)) (by unfold Oa; rw [e]; rfl) h0
  exact ⟨rfl, h.2⟩
 | false =>
  rw [hk, ax] at e
  have h := CG (p := (4, [])) (.inr (.inr rfl)) (by unfold Oa; rw [e]; rfl) h0
  exact PV h.1
theorem JO {nm : ak} {ins : List (ak)} {out : ak} {ag : bn} {v : PY} {vs : List PY} (hA : aF ag = true) (h0 : zm (ml, nm, ins, out, ag, ()) (v :: vs) = 0) : qR (aT ag lh 0) (Int.ofNat (List.length v.2.2.1)) = true := by
 cases hk : qR (aT ag lh 0) (Int.ofNat (List.length v.2.2.1)) with
 | true => rfl
 | false =>
  exfalso
  have hl := bM hA
  have e : aC Jk f155 7 [] [fD (ml, nm, ins, out, ag, ()) (v :: vs), .d (.slice aa) v.2.2.1] [] ah = some (.panic 131 4, []) := by
   refine (yJ ml nm ins out ag (v :: vs) v.2.2.1).trans ?_
   unfold lh at hk
   rw [aD (show ag.length <= 9223372036854775807 by omega), hk]
   kernel_rfl
  have h := CG (p := (4, [])) (.inr (.inl rfl)) (by unfold Oa; rw [e]; rfl) h0
  exact PV h.1
theorem CH {r : Int} : ∀ (l o : af), eh r l o = true -> ∀ a ∈ l, qR a r = true
 | [], _, _, a, ha => by cases ha
 | b :: l, o, h, a, ha => by
  rw [eh, ba, ba] at h
  rcases List.mem_cons.1 ha with rfl | ha
  ·exact h.1
  ·exact CH l _ h.2.2 a ha
theorem Hg {xs st en : af} : ∀ (l : af) (i : Nat) (o o' : af), slD xs st en i l o = some o' -> o'.length = o.length
 | [], _, o, o', h => by cases h; rfl
 | k :: l, i, o, o', h => by
  rw [slD] at h
  cases hc : decide (yi xs st en i k > 0) with
  | false => rw [hc] at h; cases h
  | true => rw [hc, ai] at h; rw [Hg l _ _ _ h, List.length_set]
theorem ado {ag : bn} {xs : af} (hx : xs.length <= 6) (h : Ei ag xs = true) : (Ej ag xs).length = xs.length /\ (al ag uo (gy (al ag nv []).length)).length <= (al ag nv []).length /\ ∀ a ∈ al ag uo (gy (al ag nv []).length), 0 <= nV a (Int.ofNat xs.length) /\ nV a (Int.ofNat xs.length) < (xs.length : Int) := by
 unfold Ei at h
 unfold Ej
 cases hO : IQ ag xs with
 | none => rw [hO] at h; cases h
 | some o =>
  unfold IQ at hO
  cases hc : eh (Int.ofNat xs.length) (slA ag) [] && (Int.ofNat (al ag bP []).length == Int.ofNat (al ag mM []).length && Int.ofNat (al ag bP []).length == Int.ofNat (slA ag).length) with
  | false => rw [hc] at hO; cases hO
  | true =>
   rw [hc, ai] at hO
   rw [ba, ba] at hc
   obtain ⟨c1, _, c3⟩ := hc
   have e3 := eq_of_beq c3
   have c4 : (slA ag).length = (al ag bP []).length := by simp only [aK] at e3; omega
   refine ⟨Hg _ _ _ _ hO, Nat.le_of_eq c4, fun a ha => ?_⟩
   have := y6 (CH _ _ c1 a ha) (Int.natCast_nonneg _) (by simp only [aK]; omega)
   simp only [aK] at this ⊢
   exact this
theorem ER {xs : af} {a : Nat} : ∀ (r : af) (i : Nat) (o o' : af), CU xs (a : Int) i r o = some o' ->
  (∀ k, k < r.length -> i + k ≠ a -> r[k]? = some (xs.getD (i + k) 0)) /\ o' = if i <= a /\ a < i + r.length then o.set a (i64.wrap (o.getD a 0 + r.getD (a - i) 0)) else o
 | [], i, o, o', h => by
  cases h
  exact ⟨fun k hk => absurd hk (Nat.not_lt_zero _), by rw [if_neg (by simp only [List.length_nil]; omega)]⟩
 | d :: r, i, o, o', h => by
  rw [CU] at h
  cases hc : (i : Int) == (a : Int) with
  | true =>
   have e : i = a := by have := eq_of_beq hc; omega
   subst e
   rw [hc, ai] at h
   obtain ⟨h1, h2⟩ := ER r (i + 1) _ _ h
   refine ⟨fun k hk j2 => ?_, ?_⟩
   ·cases k with
    | zero => exact absurd rfl j2
    | succ k =>
     have := h1 k (by simp only [List.length_cons] at hk; omega) (by omega)
     rw [show i + (k + 1) = i + 1 + k by omega]
     exact this
   ·rw [h2, if_neg (by omega), if_pos (by simp only [List.length_cons]; omega), Nat.sub_self]
    rfl
  | false =>
   have j2 : i ≠ a := fun e => by rw [e, beq_self_eq_true] at hc; cases hc
   rw [hc, ax] at h
   cases hd : d == xs.getD i 0 with
   | false => rw [hd] at h; cases h
   | true =>
    rw [hd, ai] at h
    obtain ⟨h1, h2⟩ := ER r (i + 1) _ _ h
    refine ⟨fun k hk j2 => ?_, ?_⟩
    ·cases k with
     | zero => rw [Nat.add_zero]; exact congrArg some (eq_of_beq hd)
     | succ k =>
      have := h1 k (by simp only [List.length_cons] at hk; omega) (by omega)
      rw [show i + (k + 1) = i + 1 + k by omega]
      exact this
    ·rw [h2]
     by_cases hq : i + 1 <= a /\ a < i + 1 + r.length
     ·rw [if_pos hq, if_pos (by simp only [List.length_cons]; omega)]
      obtain ⟨j, rfl⟩ : ∃ j, a = i + 1 + j := ⟨a - (i + 1), by omega⟩
      rw [show i + 1 + j - (i + 1) = j by omega, show i + 1 + j - i = j + 1 by omega]
      rfl
     ·rw [if_neg hq, if_neg (by simp only [List.length_cons]; omega)]
def nX (a : Nat) (l : af) : Int := l.getD a 0
theorem mn {l : af} {k : Nat} (h : k < l.length) : l[k]? = some (l.getD k 0) := by
 rw [List.getD_eq_getElem?_getD, List.getElem?_eq_getElem h]; rfl
theorem VM {xs ys o o' : af} {a : Nat} (hl : ys.length = xs.length) (ha : a < xs.length) (h : CU xs (a : Int) 0 ys o = some o') : ys = xs.set a (nX a ys) /\ o' = o.set a (i64.wrap (o.getD a 0 + nX a ys)) := by
 obtain ⟨h1, h2⟩ := ER ys 0 o o' h
 constructor
 ·apply List.ext_getElem?
  intro k
  by_cases hk : k < ys.length
  ·rw [List.getElem?_set]
   by_cases e : a = k
   ·subst e
    rw [if_pos rfl, if_pos ha, mn hk]
    rfl
   ·rw [if_neg e, h1 k hk (by omega), Nat.zero_add, mn (by omega)]
  ·rw [List.getElem?_eq_none (by omega), List.getElem?_eq_none (by rw [List.length_set]; omega)]
 ·rw [h2, if_pos (by omega), Nat.sub_zero]
  rfl
def ES (a : Nat) (vs : List PY) : Nat := (vs.map fun v => (nX a v.2.2.1).toNat).sum
theorem Pk {xs : af} {a : Nat} (ha : a < xs.length) : ∀ (vs : List PY) (z : Nat) (out : af), (∀ v ∈ vs, List.length v.2.2.1 = xs.length -> 1 <= nX a v.2.2.1 /\ nX a v.2.2.1 <= 65536) -> z + vs.length * 65536 <= 9223372036854775807 -> Ww xs (a : Int) vs (xs.set a (z : Int)) = some out ->
  (∀ v ∈ vs, v.2.2.1 = xs.set a (nX a v.2.2.1)) /\ out = xs.set a ((z + ES a vs : Nat) : Int)
 | [], z, out, _, _, h => by
  cases h
  exact ⟨fun v hv => (by cases hv), rfl⟩
 | v :: vs, z, out, hb, hz, h => by
  rw [Ww] at h
  cases hc : Int.ofNat (List.length v.2.2.1) == Int.ofNat xs.length with
  | false => rw [hc] at h; cases h
  | true =>
   have e := eq_of_beq hc
   simp only [aK] at e
   rw [hc, ai] at h
   cases hq : CU xs (a : Int) 0 v.2.2.1 (xs.set a (z : Int)) with
   | none => rw [hq] at h; cases h
   | some o =>
    rw [hq, aB] at h
    obtain ⟨p1, p2⟩ := VM (by omega) ha hq
    obtain ⟨b1, b2⟩ := hb v (by simp) (by omega)
    have hg : (xs.set a (z : Int)).getD a 0 = (z : Int) := by rw [List.getD_eq_getElem?_getD, List.getElem?_set, if_pos rfl, if_pos ha]; rfl
    simp only [List.length_cons] at hz
    have hw : i64.wrap ((z : Int) + nX a v.2.2.1) = ((z + (nX a v.2.2.1).toNat : Nat) : Int) := by
     rw [aI (by omega) (by omega)]
     omega
    rw [hg, hw, List.set_set] at p2
    rw [p2] at h
    obtain ⟨q1, q2⟩ := Pk ha vs (z + (nX a v.2.2.1).toNat) out (fun w hw => hb w (by simp [hw])) (by omega) h
    refine ⟨fun w hw => ?_, ?_⟩
    ·rcases List.mem_cons.1 hw with rfl | hw
     ·exact p1
     ·exact q1 w hw
    ·rw [q2]
     congr 2
     unfold ES
     rw [List.map_cons, List.sum_cons]
     omega
theorem CI {xs : af} {a : Nat} (ha : a < xs.length) : xs.set a (xs.getD a 0) = xs := by
 apply List.ext_getElem?
 intro k
 rw [List.getElem?_set]
 by_cases e : a = k
 ·subst e; rw [if_pos rfl, if_pos ha, mn ha]
 ·rw [if_neg e]
theorem drop_set {xs : af} {a : Nat} {y : Int} (ha : a < xs.length) : (xs.set a y).drop a = y :: xs.drop (a + 1) := by
 rw [List.drop_eq_getElem_cons (by rw [List.length_set]; exact ha), List.getElem_set_self, List.drop_set_of_lt (by omega)]
theorem Hh (c : Nat) (f : b9 -> Nat) : ∀ ts : List b9, (ts.map fun X => f X * c).sum = (ts.map f).sum * c
 | [] => by simp
 | X :: ts => by rw [List.map_cons, List.map_cons, List.sum_cons, List.sum_cons, Hh c f ts, Nat.add_mul]
theorem adp {ag : bn} {x : b9} {ts : List b9} {out : af} (JY : ∀ X ∈ x :: ts, ay X.2.1 = 0 /\ (List.length X.2.2.1 : Int) = aJ X.2.1) (hl : (x :: ts).length <= 65536)
  (hk : yz ag ((x :: ts).map b6) x.2.1 = some out) (hout : ay out = 0) :
  ∃ aN tN sN : Nat, nV (aT ag lh 0) (Int.ofNat out.length) = (aN : Int) /\ aN <= out.length /\ aJ (out.take aN) = (tN : Int) /\ aJ (out.drop aN) = (sN : Int) /\ adh (x :: ts) aN tN sN := by
 unfold yz at hk
 cases hx : qR (aT ag dv 0) (Int.ofNat (List.length x.2.1)) with
 | false => rw [hx] at hk; cases hk
 | true =>
  rw [hx, ai] at hk
  obtain ⟨hcx, hdx⟩ := JY x (by simp)
  have hr6 := (eQ hcx).2.1
  obtain ⟨a0, a1⟩ := y6 hx (Int.natCast_nonneg _) (by simp only [aK]; omega)
  obtain ⟨aN, haN⟩ : ∃ aN : Nat, kF (aT ag dv 0) (Int.ofNat (List.length x.2.1)) = (aN : Int) := ⟨_, (Int.toNat_of_nonneg a0).symm⟩
  rw [haN] at hk a1
  simp only [aK] at a1
  have ha : aN < List.length x.2.1 := by omega
  have dim : ∀ X ∈ x :: ts, aN < List.length X.2.1 -> 1 <= nX aN X.2.1 /\ nX aN X.2.1 <= 65536 := fun X hX bJ => by
   obtain ⟨D, hD, _, d1, d2, d3⟩ := kL (JY X hX).1
   have hg : X.2.1[aN]? = some (nX aN X.2.1) := mn bJ
   have hm := List.mem_of_getElem? hg
   rw [hD] at hm
   obtain ⟨y, hy, e⟩ := List.mem_map.1 hm
   have h1 := d1 y hy
   have h2 := Ck d1 y hy
   have e : (y : Int) = nX aN X.2.1 := by rw [hD]; exact e
   omega
  have bx := dim x (by simp) ha
  obtain ⟨D, hD, _, d1, d2, d3⟩ := kL hcx
  have hDl : D.length = List.length x.2.1 := by rw [hD, dC]
  have bx := dim x (by simp) ha
  have hz0 : x.2.1 = List.set x.2.1 aN (((nX aN x.2.1).toNat : Nat) : Int) := by
   rw [Int.toNat_of_nonneg (by omega)]
   exact (CI ha).symm
  have PJ : Ww x.2.1 (aN : Int) (ts.map b6) (List.set x.2.1 aN (((nX aN x.2.1).toNat : Nat) : Int)) = some out := by
   rw [← hz0]
   exact hk
  obtain ⟨q1, q2⟩ := Pk ha (ts.map b6) (nX aN x.2.1).toNat out (fun v hv he => by
   obtain ⟨X, hX, rfl⟩ := List.mem_map.1 hv
   have he : List.length X.2.1 = List.length x.2.1 := he
   exact dim X (by simp [hX]) (by omega)) (by rw [List.length_map]; simp only [List.length_cons] at hl; omega) PJ
  have hS : ∀ X ∈ x :: ts, X.2.1 = List.set x.2.1 aN (nX aN X.2.1) := fun X hX => by
   rcases List.mem_cons.1 hX with rfl | hX
   ·exact (CI ha).symm
   ·exact q1 (b6 X) (List.mem_map.2 ⟨X, hX, rfl⟩)
  have hlX : ∀ X ∈ x :: ts, List.length X.2.1 = List.length x.2.1 := fun X hX => by rw [hS X hX, List.length_set]
  have hdX : ∀ X ∈ x :: ts, 1 <= nX aN X.2.1 /\ nX aN X.2.1 <= 65536 := fun X hX => dim X hX (by rw [hlX X hX]; exact ha)
  have hdr : ∀ (y : Int), (List.drop aN (List.set x.2.1 aN y)).map Int.toNat = y.toNat :: D.drop (aN + 1) := fun y => by
   rw [drop_set ha, List.map_cons, hD, mT, jJ]
  have htk : ∀ (y : Int) (E : List Nat), List.set x.2.1 aN y = ints E -> E.take aN = D.take aN := fun y E hE => by
   have h1 : (ints E).take aN = (ints D).take aN := by rw [← hE, hD, List.take_set_of_le (Nat.le_refl _)]
   rw [qb, qb] at h1
   have h2 := congrArg (List.map Int.toNat) h1
   rw [jJ, jJ] at h2
   exact h2
  have hpN : ∀ X ∈ x :: ts, ph aN X = (nX aN X.2.1).toNat * aE (D.drop (aN + 1)) := fun X hX => by
   unfold ph
   rw [hS X hX, hdr]
   have e : nX aN (List.set x.2.1 aN (nX aN X.2.1)) = nX aN X.2.1 := by rw [← hS X hX]
   rw [e]
   rfl
  obtain ⟨E, hE, _, o1, o2, o3⟩ := kL hout
  have hol : out.length = List.length x.2.1 := by rw [q2, List.length_set]
  obtain ⟨k1, k2⟩ := zc o1 o3 o2 aN
  have hEs : List.set x.2.1 aN ((((nX aN x.2.1).toNat + ES aN (ts.map b6) : Nat)) : Int) = ints E := by rw [← q2, hE]
  have hEd : E.drop aN = ((nX aN x.2.1).toNat + ES aN (ts.map b6)) :: D.drop (aN + 1) := by
   have h1 := hdr ((((nX aN x.2.1).toNat + ES aN (ts.map b6) : Nat)) : Int)
   rw [hEs, mT, jJ, Int.toNat_natCast] at h1
   exact h1
  refine ⟨aN, aE (E.take aN), aE (E.drop aN), ?_, by omega, by rw [hE]; exact k1, by rw [hE]; exact k2, ?_, ?_, ?_, ?_⟩
  ·rw [hol]
   exact haN
  ·intro X hX
   obtain ⟨F, hF, _, f1, f2, f3⟩ := kL (JY X hX).1
   have hFs : List.set x.2.1 aN (nX aN X.2.1) = ints F := by rw [← hS X hX, hF]
   have hFd : F.drop aN = (nX aN X.2.1).toNat :: D.drop (aN + 1) := by
    have h1 := hdr (nX aN X.2.1)
    rw [hFs, mT, jJ] at h1
    exact h1
   have hFp : aE (F.drop aN) = ph aN X := by rw [hpN X hX, hFd]; rfl
   obtain ⟨g1, g2⟩ := zc f1 f3 f2 aN
   have hFc := (lg f1 f3 f2).2
   have hpos : 1 <= aE (F.drop aN) := fa fun y hy => f1 y (List.mem_of_mem_drop hy)
   refine ⟨by rw [hlX X hX]; omega, by rw [hF, g2, hFp], by rw [← hFp]; exact hpos, ?_⟩
   have h2 := (JY X hX).2
   rw [hF, hFc] at h2
   have h3 : aE F = aE (F.take aN) * aE (F.drop aN) := by rw [← jf, List.take_append_drop]
   rw [htk _ E hEs, ← htk _ F hFs, ← hFp, ← h3]
   omega
  ·unfold mj
   rw [List.map_congr_left (g := fun X => (nX aN X.2.1).toNat * aE (D.drop (aN + 1))) fun X hX => hpN X hX, Hh, hEd]
   show _ = ((nX aN x.2.1).toNat + ES aN (ts.map b6)) * aE (D.drop (aN + 1))
   congr 1
   unfold ES
   rw [List.map_cons, List.sum_cons, List.map_map]
   rfl
  ·rw [← jf, List.take_append_drop]
   exact o2
  ·exact fa fun y hy => o1 y (List.mem_of_mem_take hy)
def Pm : ak := uS
def adq (r : Option (aq × LHp)) : Option (b9 × Int) := match r with
 | some (.ret [.d ((.pair (.int .i64) (.pair (.slice (.int .i64)) (.pair (.slice (.int .i64)) .unit)))) t, .d (.int .i64) e], []) => some (t, e)
 | _ => none
theorem JP {r : Option (aq × LHp)} {p : b9 × Int} (h : adq r = some p) : r = some (.ret [.d (Y0) p.1, I p.2], []) := by
 unfold adq at h
 split at h
 ·cases h; rfl
 ·cases h
noncomputable def JQ (n : ek) (ts : List b9) : Option (b9 × Int) := adq (gW [(Y0), aa] (aC wK f19 7 [] [.d (Y2) n, .d (.slice (Y0)) ts] [] ah))
noncomputable def doG (n : ek) (ts : List b9) : Bool := (JQ n ts).isSome
noncomputable def doV (n : ek) (ts : List b9) : b9 := ((JQ n ts).getD ((0, [], [], ()), 0)).1
noncomputable def doC (n : ek) (ts : List b9) : Int := ((JQ n ts).getD ((0, [], [], ()), 0)).2
noncomputable def doF : List AV -> LHp -> Tq
 | [.d Y2 n, .d (.slice Y0) ts], [] => .br (doG n ts) (.leaf (.ret [.d (Y0) (doV n ts), I (doC n ts)]) []) .no
 | _, _ => .no
theorem adr : bg 19 (ao doF) := by
 have h1 := bD (d := 7) (l := []) JM func19 call19
 refine aO fun args hs ae aH h' => ?_
 unfold doF at h'
 split at h'
 ·rename_i n ts
  obtain ⟨hb, h2⟩ := Tq.br_no h'
  refine h1.okBQ [(Y0), aa] (Eq.trans ?_ h2)
  unfold doG at hb
  unfold doV doC
  cases hq : JQ n ts with
  | none => rw [hq] at hb; cases hb
  | some p => exact JP hq
 ·cases h'
noncomputable def doE : FnE := b8 [(Y2), .slice (Y0)] (ao doF)
theorem Po : bg 19 doE := bf adr
theorem Hi {n : ek} {ts : List b9} (hn : wI n) (hs : p8 ts = true) (hl : ts.length <= 2147483648) : Va n ts = true := by
 unfold Va
 rw [hs, aD hl, VC hn]
 simp
theorem uu {n : ek} {ts : List b9} (h : EC n ts = 0) : tW ts = true /\ W5 n (ts.map b6) := by
 unfold EC at h
 cases hb : tW ts with
 | false => rw [hb] at h; exact absurd (show (1 : Int) = 0 from h) (by decide)
 | true => rw [hb, ai] at h; exact ⟨rfl, acL h⟩
theorem ads {n : ek} {ts : List b9} (h : EC n ts = 0) : me n ts = (n.2.2.2.1, pZ n.1 n.2.2.2.2.1 (ts.map b6), p6 n (ts.map b6), ()) := by
 have h1 := (uu h).1
 unfold EC at h
 unfold me
 rw [h1, ai] at h ⊢
 exact acM h
def VN (ts : List b9) (p : b9 × Int) : Prop := (p.2 ≠ 0 /\ p.1 = (0, [], [], ())) \/ (p.2 = 0 /\ List.length p.1.2.2.1 <= 4294967296 /\ ∀ v ∈ p.1.2.2.1, CF ts v)
theorem adt (op nm : ak) (ins : List (ak)) (out : ak) (ag : bn) (u : Unit) : aC wK f19 7 [] [cO op nm ins out ag, .d (.slice (Y0)) []] [] ah = bif Va (op, nm, ins, out, ag, PUnit.unit) [] then bif EC (op, nm, ins, out, ag, PUnit.unit) [] != 0 then az [(I 0).pr (AV.nils.pr (AV.nils.pr (AV.d Ty.unit PUnit.unit))), I (EC (op, nm, ins, out, ag, PUnit.unit) [])] else bif op == xK then none else bif op == xN then none else bif op == xO then none else bif op == AQ then none else bif op == xL then none else bif op == xM then none else bif op == uR then none else bif op == uQ then bif ccG (op, nm, ins, out, ag, PUnit.unit) [] (me (op, nm, ins, out, ag, PUnit.unit) []).2.2.1 then az [(I (me (op, nm, ins, out, ag, PUnit.unit) []).2.1).pr ((AV.d (aa).slice (me (op, nm, ins, out, ag, PUnit.unit) []).2.2.1).pr ((AV.d (aa).slice (ccV (op, nm, ins, out, ag, PUnit.unit) [] (me (op, nm, ins, out, ag, PUnit.unit) []).2.2.1)).pr (AV.d Ty.unit PUnit.unit))), I 0] else none else bif op == oG then none else bif op == uS then none else bif op == nO then none else az [(I 0).pr (AV.nils.pr (AV.nils.pr (AV.d Ty.unit PUnit.unit))), I 5] else none := by kernel_rfl
def ajZ (a : Int) (ds l : af) : Option (aq × LHp) := some (aq.ret [(I a).pr ((AV.d (aa).slice ds).pr ((AV.d (aa).slice l).pr (AV.d Ty.unit PUnit.unit))), I 0], [])
def aj0 (c : Int) : Option (aq × LHp) := some (aq.ret [(I 0).pr (AV.nils.pr (AV.nils.pr (AV.d Ty.unit PUnit.unit))), I c], [])
theorem zd {n : ek} {ts : List b9} {a : Int} {ds l : af} (e : aC wK f19 7 [] [.d (Y2) n, .d (.slice (Y0)) ts] [] ah = ajZ a ds l) (hle : l.length <= 4294967296) (h : ∀ v ∈ l, CF ts v) : ∃ p, JQ n ts = some p /\ VN ts p :=
 ⟨((a, ds, l, ()), 0), by unfold JQ; rw [e]; rfl, .inr ⟨rfl, hle, h⟩⟩
theorem VO {n : ek} {ts : List b9} {c : Int} (e : aC wK f19 7 [] [.d (Y2) n, .d (.slice (Y0)) ts] [] ah = aj0 c) (h : c ≠ 0) : ∃ p, JQ n ts = some p /\ VN ts p :=
 ⟨((0, [], [], ()), c), by unfold JQ; rw [e]; rfl, .inl ⟨h, rfl⟩⟩
theorem Pp {ts : List b9} (h : tW ts = true) : ∀ X ∈ ts, ay X.2.1 = 0 /\ (List.length X.2.2.1 : Int) = aJ X.2.1 /\ List.length X.2.1 <= 6 /\ List.length X.2.2.1 <= 65536 := fun X hX => by
 have h1 := List.all_eq_true.1 h X hX
 obtain ⟨_, c, l, _⟩ := abc (eq_of_beq h1)
 obtain ⟨_, c2, c3, c4⟩ := eQ c
 exact ⟨c, l, c2, by omega⟩
theorem VP {op nm : ak} {ins : List (ak)} {out : ak} {ag : bn} (hn : wI (op, nm, ins, out, ag, ())) (hc : (op == dh) = false) : ∃ p, JQ (op, nm, ins, out, ag, ()) [] = some p /\ VN [] p := by
 have e := adt op nm ins out ag ()
 rw [show Va (op, nm, ins, out, ag, PUnit.unit) [] = true from Hi hn rfl (Nat.zero_le _), ai] at e
 cases h : EC (op, nm, ins, out, ag, PUnit.unit) [] != 0 with
 | true =>
  rw [h, ai] at e
  exact VO e (by simpa using h)
 | false =>
  exfalso
  have h0 : EC (op, nm, ins, out, ag, PUnit.unit) [] = 0 := by simpa using h
  have ho := (uu h0).2
  have h1 := (uh ho.ck).least
  have h2 := ho.len
  have h3 := nU hc
  have h2 : (0 : Nat) = ins.length := h2
  have h1 : (cw op).1 <= (ins.length : Int) := h1
  omega
theorem VQ {op nm : ak} {ins : List (ak)} {out : ak} {ag : bn} {ts : List b9} (hn : wI (op, nm, ins, out, ag, ())) (hs : p8 ts = true) (hl : ts.length <= 65536) (hp : (op == Pm) = false) (hc : (op == dh) = false) : ∃ p, JQ (op, nm, ins, out, ag, ()) ts = some p /\ VN ts p := by
 cases ts with
 | nil => exact VP hn hc
 | cons x ts =>
  obtain ⟨t, d, X, u⟩ := x
  have hl : ((t, d, X, PUnit.unit) :: ts).length <= 65536 := hl
  have hA : aF ag = true := hn.shA
  have hAl := bM hA
  have e := adn op nm ins out ag t d X ts
  rw [show Va (op, nm, ins, out, ag, PUnit.unit) ((t, d, X, PUnit.unit) :: ts) = true from Hi hn hs (by omega), ai] at e
  cases h : EC (op, nm, ins, out, ag, PUnit.unit) ((t, d, X, PUnit.unit) :: ts) != 0 with
  | true =>
   rw [h, ai] at e
   exact VO e (by simpa using h)
  | false =>
   have h0 : EC (op, nm, ins, out, ag, PUnit.unit) ((t, d, X, PUnit.unit) :: ts) = 0 := by simpa using h
   rw [h, ax] at e
   obtain ⟨hb, ho⟩ := uu h0
   have hm := Pp hb
   obtain ⟨m1, m2, m3, m4⟩ := hm (t, d, X, PUnit.unit) (by simp)
   have m3 : d.length <= 6 := m3
   have m4 : X.length <= 65536 := m4
   have hV := ads h0
   have hcnt := ho.cnt
   have hdm := ho.dm
   generalize hE : me (op, nm, ins, out, ag, PUnit.unit) ((t, d, X, PUnit.unit) :: ts) = E at *
   have hE2 : E.2.2.1 = p6 (op, nm, ins, out, ag, PUnit.unit) (((t, d, X, PUnit.unit) :: ts).map b6) := by rw [hV]
   have hE6 : List.length E.2.2.1 <= 6 := by rw [hE2]; exact (eQ hcnt).2.1
   have self : ∀ v ∈ X, CF ((t, d, X, PUnit.unit) :: ts) v := fun v hv => ⟨_, List.mem_cons_self, hv⟩
   have hXl : decide (X.length <= 2147483648) = true := aD (by omega)
   have hdl : decide (d.length <= 2147483648) = true := aD (by omega)
   have hw := y7 (d := d) (by omega)
   cases c1 : op == xK with
   | true => rw [c1, ai, hXl, ai] at e; exact zd e (by omega) self
   | false =>
   rw [c1, ax] at e
   cases c2 : op == xN with
   | true => rw [c2, ai, hXl, ai] at e; exact zd e (by omega) self
   | false =>
   rw [c2, ax] at e
   cases c3 : op == xO with
   | true => rw [c3, ai, hXl, ai] at e; exact zd e (by omega) self
   | false =>
   rw [c3, ax] at e
   cases c4 : op == AQ with
   | true => rw [c4, ai, hXl, ai] at e; exact zd e (by omega) self
   | false =>
   rw [c4, ax] at e
   cases c5 : op == xL with
   | true =>
    obtain ⟨s1, s2⟩ := ahv (v := uy d) (e := E.2.2.1) hw (by omega)
    rw [c5, ai, hdl, ai, s1, ai, s2, ai] at e
    exact zd e (Nat.le_trans (yW _ _) (by decide)) fun v hv => self v (yV hv)
   | false =>
   rw [c5, ax] at e
   cases c6 : op == xM with
   | true =>
    rw [c6, ai, hA, hdl] at e
    exact zd e (Nat.le_trans (yW _ _) (by decide)) fun v hv => self v (VD hv)
   | false =>
   rw [c6, ax] at e
   cases c7 : op == uR with
   | true =>
    obtain rfl : op = pj := eq_of_beq c7
    obtain ⟨k1, k2⟩ := Pj (v := b6 (t, d, X, PUnit.unit)) (vs := ts.map b6) hA m3 hdm
    obtain ⟨l1, l2, l3⟩ := ado (xs := d) m3 k1
    have hEl : List.length E.2.2.1 = d.length := by rw [hE2]; exact (congrArg List.length k2).trans l1
    obtain ⟨g1, gl, g2⟩ := ahs (op := pj) (nm := nm) (ins := ins) (out := out) (t := t) (x := X) (e := E.2.2.1) hA (by omega) hEl l2 l3
    rw [c7, ai, show msG (pj, nm, ins, out, ag, PUnit.unit) (t, d, X, PUnit.unit) E.2.2.1 = true from g1, ai] at e
    exact zd e (Nat.le_trans gl (by decide)) fun v hv => self v (g2 v hv)
   | false =>
   rw [c7, ax] at e
   cases c8 : op == uQ with
   | true =>
    obtain rfl : op = pn := eq_of_beq c8
    have hvl : (((t, d, X, PUnit.unit) :: ts).map b6).length <= 2147483648 := by rw [List.length_map]; omega
    obtain ⟨k1, k2⟩ := JN (v := b6 (t, d, X, PUnit.unit)) (vs := ts.map b6) hA m3 hvl hdm
    cases hO : yz ag (((t, d, X, PUnit.unit) :: ts).map b6) d with
    | none =>
     unfold I9 at k1
     rw [show yz ag (b6 (t, d, X, PUnit.unit) :: ts.map b6) (b6 (t, d, X, PUnit.unit)).2.2.1 = none from hO] at k1
     cases k1
    | some o =>
     have hEo : E.2.2.1 = o := by
      rw [hE2]
      refine Eq.trans k2 ?_
      unfold Ja
      rw [show yz ag (b6 (t, d, X, PUnit.unit) :: ts.map b6) (b6 (t, d, X, PUnit.unit)).2.2.1 = some o from hO]
      rfl
     have hco : ay o = 0 := by rw [← hEo, hE2]; exact hcnt
     obtain ⟨aN, tN, sN, w1, w2, w3, w4, w5⟩ := adp (x := (t, d, X, PUnit.unit)) (fun Y hY => ⟨(hm Y hY).1, (hm Y hY).2.1⟩) hl hO hco
     obtain ⟨g1, gl, g2⟩ := ahL (op := pn) (nm := nm) (ins := ins) (out := out) (e := o) hAl w1 w2 w3 w4 w5 hl
     rw [c8, ai, hEo, show ccG (pn, nm, ins, out, ag, PUnit.unit) ((t, d, X, PUnit.unit) :: ts) o = true from g1, ai] at e
     exact zd e (Nat.le_trans gl (by decide)) g2
   | false =>
   rw [c8, ax] at e
   cases c9 : op == oG with
   | true =>
    obtain rfl : op = ml := eq_of_beq c9
    have k1 := JO (v := b6 (t, d, X, PUnit.unit)) (vs := ts.map b6) hA hdm
    obtain ⟨a0, a1⟩ := y6 k1 (Int.natCast_nonneg _) (by show Int.ofNat d.length <= 6; simp only [aK]; omega)
    have r2 : (2 : Int) <= (cw ml).1 := by decide +kernel
    have r3 := (uh ho.ck).least
    have r3 : (cw ml).1 <= (ins.length : Int) := r3
    have r4 := ho.len
    have r4 : (((t, d, X, PUnit.unit) :: ts).map b6).length = ins.length := r4
    rw [List.length_map, List.length_cons] at r4
    cases ts with
    | nil => simp only [List.length_nil] at r4; omega
    | cons w ts =>
     obtain ⟨g1, gl, g2⟩ := ahG (op := ml) (nm := nm) (ins := ins) (out := out) (t := t) (x := X) (w := w) (ts := ts) hAl m1 m2 a0 a1 (hm w (by simp)).2.2.2
     rw [c9, ai, show gaG (ml, nm, ins, out, ag, PUnit.unit) ((t, d, X, PUnit.unit) :: w :: ts) = true from g1, ai] at e
     cases hg : gaC (ml, nm, ins, out, ag, PUnit.unit) ((t, d, X, PUnit.unit) :: w :: ts) != 0 with
     | true => rw [hg, ai] at e; exact VO e (by simpa using hg)
     | false => rw [hg, ax] at e; exact zd e gl fun v hv => self v (g2 v hv)
   | false =>
   rw [c9, ax] at e
   unfold Pm at hp
   unfold dh at hc
   rw [hp, ax, hc, ax] at e
   exact VO e (by decide)
noncomputable def Xi : Code := bd f16
noncomputable def ET : Code := cL (cL (cR (cL (cR Xi))))
noncomputable def jN : Cfg := ⟨20, 5, 0, [(2, [0, 3])], true⟩
def CJ (ts : List (Y0).den) (i : Int) : LSt := { fr := aw 5 [(0, .d (.slice (Y0)) ts), (3, I i)], hp := [], nx := 0 }
noncomputable def KSm : AEx -> LSt -> Option (aq × LHp) := (aQ 0 (aX g2 jN [2] (hlp g2 jN) (cR (cR Xi)) (aZ prog 0 f16.results.toList ah)))
theorem adu (ts : List (Y0).den) : aC g2 f16 5 [(2, [0, 3])] [.d (.slice (Y0)) ts] [] ah = (hlp g2 jN) ET _ (CJ ts 0) KSm := (bq [2] jN rfl).trans (by obtain ⟨hl, h⟩ := bc g2 jN; rw [h]; kernel_rfl)
theorem Xj (ts : List (Y0).den) (i : Int) (n : Nat) {R : Type} (k : AEx -> LSt -> Option R) : lp g2 jN ET (n + 1) (CJ ts i) k = bif decide (i < Int.ofNat ts.length) then (idx ts i).bind fun v1 => bif decide (Int.ofNat (List.length v1.2.2.1) > 2000) then k AEx.ret { fr := aw 5 [(0, AV.d Y0.slice ts), (2, B false), (3, I i), (4, I i), (5, AV.d Y0.slice ts), (6, I (Int.ofNat ts.length)), (7, B true), (10, AV.d Y0.slice ts), (11, I i), (12, AV.ip Y0 v1), (13, AV.ip (aa).slice v1.2.2.1), (14, AV.d (aa).slice v1.2.2.1), (15, I (Int.ofNat (List.length v1.2.2.1))), (16, B true)], hp := [], nx := 0 } else lp g2 jN ET n (CJ ts (i64.wrap (i + 1))) k else k (AEx.exit 0) { fr := aw 5 [(0, AV.d Y0.slice ts), (3, I i), (4, I i), (5, AV.d Y0.slice ts), (6, I (Int.ofNat ts.length)), (7, B false)], hp := [], nx := 0 } := by kernel_rfl
def uv (ts : List (Y0).den) : Bool := ts.all (fun t => decide (List.length t.2.2.1 <= 2000)) && decide (ts.length <= 6)
def smN (_ : Unit) (t : (Y0).den) : Nx Unit (aq × LHp) := bif decide (Int.ofNat (List.length t.2.2.1) > 2000) then .stop (some (.ret [B false], [])) else .go ()
theorem Hj (b : Bool) : ∀ (ts : List (Y0).den), cg smN (fun _ => some (.ret [B b], [])) ts () = some (.ret [B (ts.all (fun t => decide (List.length t.2.2.1 <= 2000)) && b)], [])
 | [] => rfl
 | t :: ts => by
  rw [cg]
  have e : smN () t = bif decide (Int.ofNat (List.length t.2.2.1) > 2000) then .stop (some (.ret [B false], [])) else .go () := rfl
  rw [e, List.all_cons]
  by_cases h : List.length t.2.2.1 <= 2000
  ·rw [aD h, bU (show ¬ (Int.ofNat (List.length t.2.2.1) > 2000) by simp only [aK]; omega), Bool.true_and]
   exact Hj b ts
  ·rw [bU h, aD (show Int.ofNat (List.length t.2.2.1) > 2000 by simp only [aK]; omega)]
   rfl
theorem adv {ts : List (Y0).den} (hl : ts.length <= 2147483648) : lp g2 jN ET fu (CJ ts 0) KSm = some (.ret [B (uv ts)], []) := by
 have hm : maxLen = 9223372036854775807 := by decide
 have e6 : decide (Int.ofNat ts.length <= 6) = decide (ts.length <= 6) := decide_eq_decide.2 (by simp only [aK]; omega)
 refine (cq (xs := ts) (T := fun m s => lp g2 jN ET m s KSm) (st := fun (i : Int) (_ : Unit) => CJ ts i) (f := smN) (fin := fun _ => some (.ret [B (decide (ts.length <= 6))], [])) (fun (_ : Nat) (_ : Unit) => True) (by omega) ?_ ?_ (a := ()) trivial).trans (Hj _ ts)
 ·intro i _ t m _ hi gx gi hw hd
  have e : smN () t = bif decide (Int.ofNat (List.length t.2.2.1) > 2000) then .stop (some (.ret [B false], [])) else .go () := rfl
  have h := Xj ts (i : Int) m KSm
  rw [hd, ai, gi, aB, hw] at h
  cases hq : decide (Int.ofNat (List.length t.2.2.1) > 2000) with
  | true =>
   rw [hq, ai] at h e
   exact .inr ⟨_, e, h.trans (by kernel_rfl)⟩
  | false =>
   rw [hq, ax] at h e
   exact .inl ⟨(), e, trivial, h⟩
 ·intro _ m _ hd
  show lp _ _ _ (m + 1) (CJ ts (ts.length : Int)) _ = _
  rw [Xj, hd, ax, ← e6]
  kernel_rfl
theorem ahO (ts : List (Y0).den) : hlp g2 jN ET (aq × LHp) (CJ ts 0) KSm = lp g2 jN ET fu (CJ ts 0) KSm := rfl
def adw : List AV -> LHp -> Tq
 | [.d (.slice Y0) ts], [] => .br (decide (ts.length <= 2147483648)) (.leaf (.ret [B (uv ts)]) []) .no
 | _, _ => .no
theorem VR : bg 16 (ao adw) := by
 have h1 : bg 16 (au g2 f16 5 [(2, [0, 3])]) := LK
 refine aO fun args hs ae aH h' => ?_
 unfold adw at h'
 split at h'
 ·rename_i ts
  obtain ⟨hb, h2⟩ := Tq.br_no h'
  exact h1.okC (((adu ts).trans ((ahO ts).trans (adv (aU hb)))).trans h2)
 ·cases h'
theorem VS : aC g1 f13 6 [(4, [2, 3, 5])] [.d (Y0) (0, [], [], ()), .d (Y0) (0, [], [], ())] [] ah = some (.ret [B true], []) := by kernel_rfl
def ahP : b9 := (0, [], [], ())
noncomputable def adx : List AV -> LHp -> Tq
 | [.d Y0 a, .d Y0 b], [] => .br (decide (a = ahP) && decide (b = ahP)) (.leaf (.ret [B true]) []) .no
 | _, _ => .no
theorem VT : bg 13 (ao adx) := by
 have h1 : bg 13 (au g1 f13 6 [(4, [2, 3, 5])]) := LJ
 refine aO fun args hs ae aH h' => ?_
 unfold adx at h'
 split at h'
 ·rename_i a b
  obtain ⟨hb, h2⟩ := Tq.br_no h'
  rw [ba] at hb
  obtain ⟨b1, b2⟩ := hb
  obtain rfl := aU b1
  obtain rfl := aU b2
  exact h1.okC (VS.trans h2)
 ·cases h'
noncomputable def ahQ : FnE := b8 [(Y0), (Y0)] (ao adx)
theorem VU : bg 13 ahQ := bf VT
noncomputable def gLv : Env := Sm.add 19 doE
theorem Pq : gLv.Good := ix.add Po
theorem Pr : aC gLv f17 6 [] [] [] ah = some (.ret [B true], []) := by kernel_rfl
def CL : List AV -> LHp -> Option (aq × LHp)
 | [], [] => some (.ret [B true], [])
 | _, _ => none
theorem Ps : bg 17 (fnE CL) := by
 have h1 := bD (d := 6) (l := []) Pq func17 call17
 refine ⟨fun args hs k => ?_, fun args hs ae aH h => ?_⟩
 ·simp only [fnE]
  cases CL args hs <;> rfl
 ·have h' : (CL args hs).bind (fun p => ah p.1 p.2) = some (ae, aH) := h
  unfold CL at h'
  split at h'
  ·cases h'
   exact h1.okC Pr
  ·cases h'
noncomputable def po : Code := bd f6
noncomputable def ze : Code := cL (cL (cR (cL (cR (cR (cR (cR po)))))))
noncomputable def u6 : Code := cL (cL (cR (cL (cR (cL (cL (cR (cL (cL (cR (cL (cR (cR (cR (cR po)))))))))))))))
noncomputable def JR : Code := cL (cL (cR (cL (cL (cR (cL (cL (cR (cL (cR (cL (cL (cR (cL (cL (cR (cL (cR (cR (cR (cR po)))))))))))))))))))))
noncomputable def ahR : Code := cR (cR (cL (cL (cR (cL (cR (cL (cL (cR (cL (cL (cR (cL (cR (cR (cR (cR po)))))))))))))))))
noncomputable def bl : Cfg := ⟨83, 7, 0, [(7, [1, 5, 7]), (11, [1, 5, 7, 8, 9]), (14, [1, 5, 7, 8, 9, 10])], true⟩
noncomputable def cx : Env := (((Sm.add 16 (ao adw)).add 17 (fnE CL)).add 13 ahQ).add 19 doE
theorem JS : cx.Good := (((ix.add VR).add Ps).add VU).add Po
noncomputable def CN : AEx -> LSt -> Option (aq × LHp) := (aQ 0 (aX cx bl [7, 11, 14] (hlp cx bl) (cR (cR (cR (cR (cR po))))) (aZ prog 0 f6.results.toList ah)))
theorem ady (op nm : ak) (ins : List (ak)) (out : ak) (ag : bn) (ts : List b9) : aC cx f6 7 [(7, [1, 5, 7]), (11, [1, 5, 7, 8, 9]), (14, [1, 5, 7, 8, 9, 10])] [cO op nm ins out ag, .d (.slice (Y0)) ts] [] ah = bif decide (ts.length <= 2147483648) then bif !uv ts then az [B true] else bif op == uS then az [B true] else bif op == nO then az [B true] else bif doG (op, nm, ins, out, ag, PUnit.unit) ts then bif doC (op, nm, ins, out, ag, PUnit.unit) ts != 0 then bif decide (doV (op, nm, ins, out, ag, PUnit.unit) ts = (0, [], [], PUnit.unit)) && true then az [B true] else none else (hlp cx bl) ze _ { fr := aw 7 [(1, AV.d Y0.slice ts), (5, AV.op 0 [] 0), (7, I 0)], hp := [(0, aj.box (AV.d Y0 (doV (op, nm, ins, out, ag, PUnit.unit) ts)))], nx := 1 } CN else none else none := (bq [7, 11, 14] bl rfl).trans (by obtain ⟨hl, h⟩ := bc cx bl; rw [h]; kernel_rfl)
def adz (ts : List b9) : List (Nat × AV) := [(1, .d (.slice (Y0)) ts), (5, .op 0 [] 0)]
def wL (ts : List b9) (y : b9) (i : Int) : LSt := { fr := aw 7 (adz ts ++ [(7, I i)]), hp := [(0, .box (.d (Y0) y))], nx := 1 }
def CM (ts : List b9) (y : b9) (i : Int) (f : Bool) (k : Int) : LSt := { fr := aw 7 (adz ts ++ [(7, I i), (8, B f), (9, I k)]), hp := [(0, .box (.d (Y0) y))], nx := 1 }
def Hk (ts : List b9) (y : b9) (i : Int) (f : Bool) (k j : Int) : LSt := { fr := aw 7 (adz ts ++ [(7, I i), (8, B f), (9, I k), (10, I j)]), hp := [(0, .box (.d (Y0) y))], nx := 1 }
theorem Pt (ts : List b9) (t : Int) (d x : af) (i : Int) (n : Nat) {R : Type} (k : AEx -> LSt -> Option R) : lp cx bl ze (n + 1) (wL ts (t, d, x, ()) i) k = bif decide (i < Int.ofNat x.length) then (hlp cx bl) u6 _ { fr := aw 7 [(1, AV.d Y0.slice ts), (5, AV.op 0 [] 0), (7, I i), (8, B false), (9, I 0)], hp := [(0, aj.box (AV.d Y0 (t, d, x, PUnit.unit)))], nx := 1 } (aQ 2 (aX cx bl [7, 11, 14] (hlp cx bl) (cR (cR (cL (cL (cR (cL (cL (cR (cL (cR (cR (cR (cR po))))))))))))) (aQ 1 (aX cx bl [7, 11, 14] (hlp cx bl) (cR (cR (cL (cL (cR (cL (cR (cR (cR (cR po)))))))))) (oE cx bl [7, 11, 14] (hlp cx bl) ze n k))))) else k (AEx.exit 0) { fr := aw 7 [(1, AV.d Y0.slice ts), (5, AV.op 0 [] 0), (7, I i), (39, I i), (40, AV.op 0 [2] 2), (41, AV.d (aa).slice x), (42, I (Int.ofNat x.length)), (43, B false)], hp := [(0, aj.box (AV.d Y0 (t, d, x, PUnit.unit)))], nx := 1 } := by
 rw [lY [7, 11, 14]]
 obtain ⟨hl, h⟩ := bc cx bl
 rw [h]
 kernel_rfl
theorem Pu (ts : List b9) (t : Int) (d x : af) (i : Int) (f : Bool) (z : Int) (n : Nat) {R : Type} (k : AEx -> LSt -> Option R) : lp cx bl u6 (n + 1) (CM ts (t, d, x, ()) i f z) k = bif decide (z < Int.ofNat ts.length) then (hlp cx bl) JR _ { fr := aw 7 [(1, AV.d Y0.slice ts), (5, AV.op 0 [] 0), (7, I i), (8, B f), (9, I z), (10, I 0)], hp := [(0, aj.box (AV.d Y0 (t, d, x, PUnit.unit)))], nx := 1 } (aQ 4 (aQ 3 (aX cx bl [7, 11, 14] (hlp cx bl) ahR (oE cx bl [7, 11, 14] (hlp cx bl) u6 n k)))) else k (AEx.exit 2) { fr := aw 7 [(1, AV.d Y0.slice ts), (5, AV.op 0 [] 0), (7, I i), (8, B f), (9, I z), (46, I z), (47, AV.d Y0.slice ts), (48, I (Int.ofNat ts.length)), (49, B false)], hp := [(0, aj.box (AV.d Y0 (t, d, x, PUnit.unit)))], nx := 1 } := by
 rw [lY [7, 11, 14]]
 obtain ⟨hl, h⟩ := bc cx bl
 rw [h]
 kernel_rfl
noncomputable def EU (n : Nat) (k : AEx -> LSt -> Option (aq × LHp)) : AEx -> LSt -> Option (aq × LHp) := (aQ 2 (aX cx bl [7, 11, 14] (hlp cx bl) (cR (cR (cL (cL (cR (cL (cL (cR (cL (cR (cR (cR (cR po))))))))))))) (aQ 1 (aX cx bl [7, 11, 14] (hlp cx bl) (cR (cR (cL (cL (cR (cL (cR (cR (cR (cR po)))))))))) (oE cx bl [7, 11, 14] (hlp cx bl) ze n k)))))
noncomputable def Pv (n : Nat) (k : AEx -> LSt -> Option (aq × LHp)) : AEx -> LSt -> Option (aq × LHp) := (aQ 4 (aQ 3 (aX cx bl [7, 11, 14] (hlp cx bl) ahR (oE cx bl [7, 11, 14] (hlp cx bl) u6 n k))))
theorem Pw (ts : List b9) (t : Int) (d x : af) (i : Int) (f : Bool) (z j : Int) (m : Nat) (K : AEx -> LSt -> Option (aq × LHp)) (n : Nat) : lp cx bl JR (n + 1) (Hk ts (t, d, x, ()) i f z j) (Pv m K) = (idx ts z).bind fun v0 => bif decide (j < Int.ofNat (List.length v0.2.2.1)) then bif !f then (idx ts z).bind fun v3 => (idx v3.2.2.1 j).bind fun v4 => (idx x i).bind fun v5 => lp cx bl JR n { fr := aw 7 [(1, AV.d Y0.slice ts), (5, AV.op 0 [] 0), (7, I i), (8, B (v4 == v5)), (9, I z), (10, I (i64.wrap (j + 1)))], hp := [(0, aj.box (AV.d Y0 (t, d, x, PUnit.unit)))], nx := 1 } (Pv m K) else lpH cx bl [7, 11, 14] (hlp cx bl) u6 m { fr := aw 7 [(1, AV.d Y0.slice ts), (5, AV.op 0 [] 0), (7, I i), (8, B f), (9, I (i64.wrap (z + 1)))], hp := [(0, aj.box (AV.d Y0 (t, d, x, PUnit.unit)))], nx := 1 } K else lpH cx bl [7, 11, 14] (hlp cx bl) u6 m { fr := aw 7 [(1, AV.d Y0.slice ts), (5, AV.op 0 [] 0), (7, I i), (8, B f), (9, I (i64.wrap (z + 1)))], hp := [(0, aj.box (AV.d Y0 (t, d, x, PUnit.unit)))], nx := 1 } K := by kernel_rfl
theorem adA {ts : List b9} {t : Int} {d x : af} {i : Nat} {v : Int} {z : Nat} {X : b9} {P : Prop} (gx : idx x (i : Int) = some v) (gz : idx ts (z : Int) = some X) (hX : List.length X.2.2.1 <= 2147483648) {m : Nat} {K : AEx -> LSt -> Option (aq × LHp)} : ∀ (r j n : Nat) (f : Bool), j + r = List.length X.2.2.1 -> r < n -> (f = true \/ v ∈ List.drop j X.2.2.1 \/ P) ->
  ∃ f' : Bool, (f' = true \/ P) /\ lp cx bl JR n (Hk ts (t, d, x, ()) (i : Int) f (z : Int) (j : Int)) (Pv m K) = lp cx bl u6 m (CM ts (t, d, x, ()) (i : Int) f' (i64.wrap ((z : Int) + 1))) K := by
 intro r
 induction r with
 | zero =>
  intro j n f hj hn hI
  obtain ⟨n, rfl⟩ : ∃ m', n = m' + 1 := ⟨n - 1, by omega⟩
  have hs := Pw ts t d x (i : Int) f (z : Int) (j : Int) m K n
  rw [gz, aB, bU (show ¬ ((j : Int) < Int.ofNat (List.length X.2.2.1)) by simp only [aK]; omega), ax] at hs
  refine ⟨f, ?_, hs.trans kZ⟩
  rcases hI with h | h | h
  ·exact .inl h
  ·rw [List.drop_eq_nil_of_le (by omega)] at h; cases h
  ·exact .inr h
 | succ r ih =>
  intro j n f hj hn hI
  obtain ⟨n, rfl⟩ : ∃ m', n = m' + 1 := ⟨n - 1, by omega⟩
  have hs := Pw ts t d x (i : Int) f (z : Int) (j : Int) m K n
  have bJ : j < List.length X.2.2.1 := by omega
  rw [gz, aB, aD (show (j : Int) < Int.ofNat (List.length X.2.2.1) by simp only [aK]; omega), ai] at hs
  cases f with
  | true =>
   rw [Bool.not_true, ax] at hs
   exact ⟨true, .inl rfl, hs.trans kZ⟩
  | false =>
   have gj : idx X.2.2.1 (j : Int) = some (List.getD X.2.2.1 j 0) := by
    unfold idx
    rw [if_pos (by omega), Int.toNat_natCast, mn bJ]
   rw [Bool.not_false, ai, aB, gj, aB, gx, aB, aI (n := (j : Int) + 1) (by omega) (by omega)] at hs
   have hnx : (List.getD X.2.2.1 j 0 == v) = true \/ v ∈ List.drop (j + 1) X.2.2.1 \/ P := by
    rcases hI with h | h | h
    ·cases h
    ·rw [List.drop_eq_getElem_cons bJ] at h
     rcases List.mem_cons.1 h with h | h
     ·left
      rw [List.getD_eq_getElem?_getD, List.getElem?_eq_getElem bJ, h]
      simp
     ·exact .inr (.inl h)
    ·exact .inr (.inr h)
   obtain ⟨f', h1, h2⟩ := ih (j + 1) n _ (by omega) (by omega) hnx
   exact ⟨f', h1, hs.trans h2⟩
theorem ahS (ts : List b9) (y : b9) (i : Int) (f : Bool) (z : Int) (m : Nat) (K : AEx -> LSt -> Option (aq × LHp)) : hlp cx bl JR (aq × LHp) (Hk ts y i f z 0) (Pv m K) = lp cx bl JR fu (Hk ts y i f z 0) (Pv m K) := rfl
theorem adB {ts : List b9} {t : Int} {d x : af} {i : Nat} {v : Int} (gx : idx x (i : Int) = some v) (hX : ∀ X ∈ ts, List.length X.2.2.1 <= 2147483648) (hl : ts.length <= 65536) {m : Nat} {K : AEx -> LSt -> Option (aq × LHp)} : ∀ (r z n : Nat) (f : Bool), z + r = ts.length -> r < n -> (f = true \/ ∃ X ∈ List.drop z ts, v ∈ X.2.2.1) ->
  lp cx bl u6 n (CM ts (t, d, x, ()) (i : Int) f (z : Int)) (EU m K) = lp cx bl ze m (wL ts (t, d, x, ()) (i64.wrap ((i : Int) + 1))) K := by
 intro r
 induction r with
 | zero =>
  intro z n f hz hn hI
  obtain ⟨n, rfl⟩ : ∃ m', n = m' + 1 := ⟨n - 1, by omega⟩
  have hs := Pu ts t d x (i : Int) f (z : Int) n (EU m K)
  rw [bU (show ¬ ((z : Int) < Int.ofNat ts.length) by simp only [aK]; omega), ax] at hs
  have hf : f = true := by
   rcases hI with h | ⟨X, h, _⟩
   ·exact h
   ·rw [List.drop_eq_nil_of_le (by omega)] at h; cases h
  subst hf
  exact hs.trans (Eq.trans (b := lpH cx bl [7, 11, 14] (hlp cx bl) ze m (wL ts (t, d, x, ()) (i64.wrap ((i : Int) + 1))) K) (by kernel_rfl) kZ)
 | succ r ih =>
  intro z n f hz hn hI
  obtain ⟨n, rfl⟩ : ∃ m', n = m' + 1 := ⟨n - 1, by omega⟩
  have bJ : z < ts.length := by omega
  have gz : idx ts (z : Int) = some ts[z] := by unfold idx; rw [if_pos (by omega), Int.toNat_natCast, List.getElem?_eq_getElem bJ]
  have hs := Pu ts t d x (i : Int) f (z : Int) n (EU m K)
  rw [aD (show (z : Int) < Int.ofNat ts.length by simp only [aK]; omega), ai] at hs
  have hb := hX _ (List.getElem_mem bJ)
  obtain ⟨f', h1, h2⟩ := adA (t := t) (d := d) (P := ∃ X ∈ List.drop (z + 1) ts, v ∈ X.2.2.1) gx gz hb (m := n) (K := EU m K) (List.length ts[z].2.2.1) 0 fu f (by omega) (by unfold fu; omega) (by
   rcases hI with h | ⟨X, h, hv⟩
   ·exact .inl h
   ·rw [List.drop_eq_getElem_cons bJ] at h
    rcases List.mem_cons.1 h with h | h
    ·subst h; exact .inr (.inl hv)
    ·exact .inr (.inr ⟨X, h, hv⟩))
  have h3 := hs.trans ((ahS ts (t, d, x, ()) (i : Int) f (z : Int) n (EU m K)).trans h2)
  rw [aI (n := (z : Int) + 1) (by omega) (by omega)] at h3
  exact h3.trans (ih (z + 1) n f' (by omega) (by omega) h1)
theorem ahT (ts : List b9) (y : b9) (i : Int) (m : Nat) (K : AEx -> LSt -> Option (aq × LHp)) : hlp cx bl u6 (aq × LHp) (CM ts y i false 0) (EU m K) = lp cx bl u6 fu (CM ts y i false 0) (EU m K) := rfl
theorem adC {ts : List b9} {t : Int} {d x : af} (hx : x.length <= 4294967296) (hX : ∀ X ∈ ts, List.length X.2.2.1 <= 2147483648) (hl : ts.length <= 65536) (hm : ∀ v ∈ x, CF ts v) : ∀ (r i n : Nat), i + r = x.length -> r < n ->
  lp cx bl ze n (wL ts (t, d, x, ()) (i : Int)) CN = some (.ret [B true], []) := by
 intro r
 induction r with
 | zero =>
  intro i n hi hn
  obtain ⟨n, rfl⟩ : ∃ m', n = m' + 1 := ⟨n - 1, by omega⟩
  have hs := Pt ts t d x (i : Int) n CN
  rw [bU (show ¬ ((i : Int) < Int.ofNat x.length) by simp only [aK]; omega), ax] at hs
  exact hs.trans (by kernel_rfl)
 | succ r ih =>
  intro i n hi hn
  obtain ⟨n, rfl⟩ : ∃ m', n = m' + 1 := ⟨n - 1, by omega⟩
  have bJ : i < x.length := by omega
  have gx : idx x (i : Int) = some x[i] := by unfold idx; rw [if_pos (by omega), Int.toNat_natCast, List.getElem?_eq_getElem bJ]
  have hs := Pt ts t d x (i : Int) n CN
  rw [aD (show (i : Int) < Int.ofNat x.length by simp only [aK]; omega), ai] at hs
  have h2 := adB (t := t) (d := d) gx hX hl (m := n) (K := CN) ts.length 0 fu false (by omega) (by unfold fu; omega) (.inr (hm _ (List.getElem_mem bJ)))
  have h3 := hs.trans ((ahT ts (t, d, x, ()) (i : Int) n CN).trans h2)
  rw [aI (n := (i : Int) + 1) (by omega) (by omega)] at h3
  exact h3.trans (ih (i + 1) n (by omega) (by omega))
theorem ahU (ts : List b9) (y : b9) : hlp cx bl ze (aq × LHp) (wL ts y 0) CN = lp cx bl ze fu (wL ts y 0) CN := rfl
theorem Px {op nm : ak} {ins : List (ak)} {out : ak} {ag : bn} {ts : List b9} (hn : wI (op, nm, ins, out, ag, ())) (hs : p8 ts = true) (hl : ts.length <= 2147483648) (hX : ∀ X ∈ ts, List.length X.2.2.1 <= 2147483648) : aC cx f6 7 [(7, [1, 5, 7]), (11, [1, 5, 7, 8, 9]), (14, [1, 5, 7, 8, 9, 10])] [cO op nm ins out ag, .d (.slice (Y0)) ts] [] ah = some (.ret [B true], []) := by
 have e := ady op nm ins out ag ts
 rw [aD hl, ai] at e
 cases hsm : uv ts with
 | false => rw [hsm] at e; exact e
 | true =>
  rw [hsm, Bool.not_true, ax] at e
  have hl6 : ts.length <= 6 := by
   unfold uv at hsm
   rw [ba] at hsm
   exact aU hsm.2
  cases hp : op == uS with
  | true => rw [hp, ai] at e; exact e
  | false =>
   rw [hp, ax] at e
   cases hc : op == nO with
   | true => rw [hc, ai] at e; exact e
   | false =>
    rw [hc, ax] at e
    obtain ⟨p, hR, hK⟩ := VQ (ts := ts) hn hs (by omega) hp hc
    have hG : doG (op, nm, ins, out, ag, PUnit.unit) ts = true := by unfold doG; rw [show JQ (op, nm, ins, out, ag, PUnit.unit) ts = some p from hR]; rfl
    have hV : doV (op, nm, ins, out, ag, PUnit.unit) ts = p.1 := by unfold doV; rw [show JQ (op, nm, ins, out, ag, PUnit.unit) ts = some p from hR]; rfl
    have hC : doC (op, nm, ins, out, ag, PUnit.unit) ts = p.2 := by unfold doC; rw [show JQ (op, nm, ins, out, ag, PUnit.unit) ts = some p from hR]; rfl
    rw [hG, ai, hV, hC] at e
    rcases hK with ⟨k1, k2⟩ | ⟨k1, hle, k2⟩
    ·rw [show (p.2 != 0) = true by simpa using k1, ai, aD k2] at e
     exact e
    ·rw [show (p.2 != 0) = false by simpa using k1, ax] at e
     obtain ⟨⟨t, d, x, u⟩, c⟩ := p
     have k2 : ∀ v ∈ x, CF ts v := k2
     have hle : x.length <= 4294967296 := hle
     exact e.trans ((ahU ts (t, d, x, ())).trans (adC hle hX (by omega) k2 x.length 0 fu (by omega) (by unfold fu; omega)))
end
end Go.Proofs.XRT
namespace Go.Vm
open Go.ChangeShapes Go.WideShapes Go.RowKit
def pq (N : Nat) : (t : Ty) -> t.den -> Prop
 | .int _, _ => True
 | .bool, _ => True
 | .str, s => s.length <= N
 | .flt _, _ => True
 | .slice e, xs => xs.length <= N /\ ∀ x ∈ xs, pq N e x
 | .unit, _ => True
 | .pair a b, x => pq N a x.1 /\ pq N b x.2
 | .arr _ e, xs => ∀ x ∈ xs, pq N e x
structure VV {H : Type} (m : DataW H -> Nat) : Prop where
 str : ∀ b : List UInt8, b.length <= m (.lit (.string b))
 slen : ∀ es sp, es.length <= m (.slice es sp)
 selt : ∀ es sp (e : DataW H), e ∈ es -> m e <= m (.slice es sp)
 part : ∀ es (e : DataW H), e ∈ es -> m e <= m (.agg es)
section
variable {H : Type} {enc : TypeId × Value -> H} {P : Program} {w : World} {sp : Nat -> Bool} {held : Bool} {m : DataW H -> Nat} {N : Nat}
mutual
theorem open_tyB (hm : VV m) : ∀ (τ : Ty) (t : TypeId) (fuel : Nat) (cs : List Value) (x : DataW H × List MemPlace), readTy P τ t = true -> DataW.trod enc P w 0 sp held fuel t cs = some x -> m x.1 <= N ->
    ∃ y : τ.den, aM w (fun b => b < w.heap.size) τ cs y /\ WfD τ y /\ pq N τ y
  | .int k, t, fuel, cs, x, hr, h, _ => by
    simp only [readTy] at hr
    split at hr
    · rename_i k' hu
      obtain rfl := aU hr
      obtain ⟨n, rfl, _, hw⟩ := DataW.trod_int hu h
      exact ⟨n, rfl, hw, trivial⟩
    · cases hr
  | .bool, t, fuel, cs, x, hr, h, _ => by
    simp only [readTy] at hr
    split at hr
    · rename_i hu
      obtain ⟨n, rfl, _⟩ := DataW.trod_bool hu h
      exact ⟨n, rfl, trivial, trivial⟩
    · cases hr
  | .str, t, fuel, cs, x, hr, h, hN => by
    simp only [readTy] at hr
    split at hr
    · rename_i hu
      obtain ⟨s, rfl, rfl, hw⟩ := DataW.trod_string hu h
      refine ⟨s.data.toList, by simp [aM], by simpa [WfD] using hw, Nat.le_trans (hm.str _) hN⟩
    · cases hr
  | .flt _, _, _, _, _, hr, _, _ => by simp [readTy] at hr
  | .unit, _, _, _, _, hr, _, _ => by simp [readTy] at hr
  | .arr _ _, _, _, _, _, hr, _, _ => by simp [readTy] at hr
  | .slice e, t, fuel, cs, x, hr, h, hN => by
    simp only [readTy] at hr
    split at hr
    · rename_i u hu
      simp only [ba] at hr
      obtain ⟨⟨h1, h2⟩, h3⟩ := hr
      have h1 := bj h1
      have h2 := Nat.le_of_ble_eq_true h2
      rcases DataW.trod_slice hu h with ⟨rfl, _⟩ | ⟨a, len, cap, elems, rest, n, _, rfl, hx9, _, hlc, Hr, hel, helem, _, _⟩
      · exact ⟨[], ⟨none, 0, rfl, Nat.le_refl _, by simp, fun _ => rfl, rfl⟩, by simp [WfD], by simp [pq]⟩
      · subst hx9
        have hall : ∀ i, 0 <= i -> i < 0 + len -> ∃ c z, w.cells? 0 (a.add (i * P.cellsOf u)) (P.cellsOf u) = some c /\ aM w (fun b => b < w.heap.size) e c z /\ (WfD e z /\ pq N e z) := by
          intro i _ hi
          have := helem i (by omega)
          rw [List.getElem?_eq_getElem (by omega)] at this
          obtain ⟨c, hc, hx⟩ := Option.bind_eq_some_iff.1 this
          obtain ⟨z, h4, h5⟩ := open_tyB hm e u n c _ h3 hx (Nat.le_trans (hm.selt _ _ _ (List.mem_map.2 ⟨_, List.getElem_mem _, rfl⟩)) hN)
          exact ⟨c, z, hc, h4, h5⟩
        obtain ⟨c, zs, hz, hrep, hg, CZ, hcell⟩ := Fl len 0 hall
        have hlen : zs.length <= N := by
          have := hm.slen (elems.map (·.1)) (rest.map (·.1))
          rw [List.length_map] at this
          have hN' : m (.slice (elems.map (·.1)) (rest.map (·.1))) <= N := hN
          omega
        refine ⟨zs, ⟨some a, cap, by rw [hz], by omega, Hr, fun h => (by cases h), ?_⟩, ⟨by rw [hz]; omega, fun z hz => (hg z hz).1⟩, ⟨hlen, fun z hz => (hg z hz).2⟩⟩
        cases len with
        | zero => exact .inl (List.eq_nil_of_length_eq_zero hz)
        | succ len =>
          right
          have hc0 := hcell 0 0 (by omega) (by omega)
          rw [List.getElem?_eq_getElem (by rw [CZ, h1]; exact Nat.lt_of_lt_of_le (by omega) (Nat.mul_le_mul (show 1 <= len + 1 by omega) h2))] at hc0
          have hspot : a.spot = none := by simpa [Addr.add] using World.cell?_spot hc0
          obtain ⟨b, off, spot⟩ := a
          obtain rfl : spot = none := hspot
          have hb := QG hc0
          simp only [add_plain] at hb
          refine ⟨rfl, hb, c, fun j v hj => ?_, hrep⟩
          have hj' := (List.getElem?_eq_some_iff.1 hj).1
          rw [CZ] at hj'
          have hm := Nat.div_add_mod j (P.cellsOf u)
          have := hcell (j / P.cellsOf u) (j % P.cellsOf u) (Nat.div_lt_of_lt_mul (by rw [Nat.mul_comm]; exact hj')) (Nat.mod_lt _ (by omega))
          rw [add_plain, add_plain, Nat.zero_add, Nat.mul_comm, hm, Nat.add_assoc, hm] at this
          exact this.trans hj
    · cases hr
  | .pair a b, t, fuel, cs, x, hr, h, hN => by
    simp only [readTy] at hr
    split at hr
    · rename_i fs hu
      simp only [ba] at hr
      obtain ⟨h1, hr⟩ := hr
      have h1 := bj h1
      obtain ⟨xs, n, _, rfl, hl, hxl, hf⟩ := DataW.trod_struct hu h
      split at hr
      · rename_i f r hfs
        simp only [ba] at hr
        obtain ⟨⟨⟨g1, g2⟩, g3⟩, g4⟩ := hr
        have g1 := bj g1
        have g2 := bj g2
        have pA : ∀ (i : Nat) (f' : Field), (f :: r)[i]? = some f' -> DataW.trod enc P w 0 sp held n f'.type ((cs.drop f'.offset).take (P.cellsOf f'.type)) = xs[i]? := by
          intro i f' hi
          exact hf i f' (by rw [← hfs] at hi; simpa using hi)
        have hlen : xs.length = (f :: r).length := by rw [hxl, ← hfs]; simp
        have hx0 := pA 0 f rfl
        rw [List.getElem?_eq_getElem (by rw [hlen]; simp)] at hx0
        rw [g1, g2, List.drop_zero] at hx0
        have hb : ∀ z ∈ xs, m z.1 <= N := fun z hz => Nat.le_trans (hm.part _ _ (List.mem_map.2 ⟨z, hz, rfl⟩)) hN
        obtain ⟨y1, k1, k2, k5⟩ := open_tyB hm a f.type n _ _ g3 hx0 (hb _ (List.getElem_mem _))
        obtain ⟨y2, k3, k4, k6⟩ := open_fsB hm b a.size r n cs (by rw [hl, h1]) g4 (fun i f' hi => ⟨xs[i + 1]'(by rw [hlen]; have := (List.getElem?_eq_some_iff.1 hi).1; simp; omega), by rw [pA (i + 1) f' hi, List.getElem?_eq_getElem], hb _ (List.getElem_mem _)⟩)
        exact ⟨(y1, y2), ⟨_, _, (List.take_append_drop a.size cs).symm, k1, k3⟩, ⟨k2, k4⟩, k5, k6⟩
      · cases hr
    · cases hr
theorem open_fsB (hm : VV m) : ∀ (τ : Ty) (off : Nat) (fs : List Field) (n : Nat) (cs : List Value), cs.length = off + τ.size -> readFs P τ off fs = true -> (∀ (i : Nat) (f : Field), fs[i]? = some f -> ∃ x, DataW.trod enc P w 0 sp held n f.type ((cs.drop f.offset).take (P.cellsOf f.type)) = some x /\ m x.1 <= N) ->
    ∃ y : τ.den, aM w (fun b => b < w.heap.size) τ (cs.drop off) y /\ WfD τ y /\ pq N τ y
  | .unit, off, fs, n, cs, hl, _, _ => ⟨(), List.drop_eq_nil_of_le (by rw [hl]; exact Nat.le_refl _), trivial, trivial⟩
  | .pair a b, off, fs, n, cs, hl, hr, h => by
    simp only [readFs] at hr
    split at hr
    · rename_i f r
      simp only [ba] at hr
      obtain ⟨⟨⟨g1, g2⟩, g3⟩, g4⟩ := hr
      have g1 := bj g1
      have g2 := bj g2
      obtain ⟨x, hx, hxN⟩ := h 0 f rfl
      rw [g1, g2] at hx
      obtain ⟨y1, k1, k2, k5⟩ := open_tyB hm a f.type n _ _ g3 hx hxN
      obtain ⟨y2, k3, k4, k6⟩ := open_fsB hm b (off + a.size) r n cs (by rw [hl]; simp [Ty.size, Nat.add_assoc]) g4 (fun i f' hi => h (i + 1) f' hi)
      refine ⟨(y1, y2), ⟨_, _, (List.take_append_drop a.size (cs.drop off)).symm, k1, ?_⟩, ⟨k2, k4⟩, k5, k6⟩
      rw [List.drop_drop]
      exact k3
    · cases hr
  | .int _, _, _, _, _, _, hr, _ => by simp [readFs] at hr
  | .bool, _, _, _, _, _, hr, _ => by simp [readFs] at hr
  | .str, _, _, _, _, _, hr, _ => by simp [readFs] at hr
  | .flt _, _, _, _, _, _, hr, _ => by simp [readFs] at hr
  | .slice _, _, _, _, _, _, hr, _ => by simp [readFs] at hr
  | .arr _ _, _, _, _, _, _, hr, _ => by simp [readFs] at hr
end
theorem wM (hm : VV m) {τ : Ty} {t : TypeId} {v : Value} {d : DataW H} {p : List MemPlace} (hr : readTy P τ t = true) (hagg : aY v = τ.isAgg) (h : DataW.Trod enc P w 0 sp held t v d p) (hN : m d <= N) :
  ∃ y : τ.den, aM w (fun b => b < w.heap.size) τ v.cells.toList y /\ WfD τ y /\ pq N τ y /\ bo w (fun b => b < w.heap.size) (fun _ => .none) (aA []) (.d τ y) v := by
 obtain ⟨fuel, h⟩ := h
 obtain ⟨y, h1, h2, h3⟩ := open_tyB hm τ t fuel _ _ hr h hN
 exact ⟨y, h1, h2, h3, h1, hagg⟩
end
end Go.Vm
set_option maxRecDepth 100000
set_option maxHeartbeats 4000000
namespace Go.Proofs.XRT
open Go.Vm Go Tryz IntKind
noncomputable section
theorem VW {n : ek} (h : pq 1048576 (Y2) n) : wI n := by
 obtain ⟨op, nm, ins, out, ag, u⟩ := n
 obtain ⟨_, _, hi, _, ha, _⟩ := h
 have ha1 : ag.length <= 1048576 := ha.1
 have ha2 : ∀ a ∈ ag, pq 1048576 (Y1) a := ha.2
 refine ⟨hi.1, ?_, ?_, fun a h => ?_⟩
 ·show aF ag = true
  unfold aF
  rw [aD (show ag.length <= 2147483647 by omega), Bool.true_and]
  refine List.all_eq_true.2 fun a h => ?_
  obtain ⟨a1, _, _, _, a5, _, a7, _⟩ := ha2 a h
  have a1 : List.length a.1 <= 1048576 := a1
  have a5 : List.length a.2.2.2.2.1 <= 1048576 := a5
  have a7 : List.length a.2.2.2.2.2.2.1 <= 1048576 := a7.1
  rw [aD (show List.length a.1 <= 2147483647 by omega), aD (show List.length a.2.2.2.2.1 <= 2147483647 by omega), aD (show List.length a.2.2.2.2.2.2.1 <= 2147483648 by omega)]
  rfl
 ·show l7 ag = true
  refine List.all_eq_true.2 fun a h => ?_
  obtain ⟨_, _, _, _, _, a6, _⟩ := ha2 a h
  have b1 : List.length a.2.2.2.2.2.1.2.1 <= 1048576 := a6.2.1.1
  have b2 : List.length a.2.2.2.2.2.1.2.2.1 <= 1048576 := a6.2.2.1.1
  have hm : maxLen = 9223372036854775807 := by decide
  exact aD ⟨by omega, by omega⟩
 ·obtain ⟨_, _, _, _, _, _, a7, _⟩ := ha2 a h
  exact a7.1
theorem zf {ts : List b9} (h : pq 1048576 (.slice (Y0)) ts) : p8 ts = true /\ ts.length <= 1048576 := by
 refine ⟨List.all_eq_true.2 fun t ht => ?_, h.1⟩
 obtain ⟨_, h2, h3, _⟩ := h.2 t ht
 have b1 : List.length t.2.1 <= 1048576 := h2.1
 have b2 : List.length t.2.2.1 <= 1048576 := h3.1
 exact aD ⟨by omega, by omega⟩
theorem mke_call (n : ek) (hn : pq 1048576 (Y2) n) (ts : List b9) (ht : pq 1048576 (.slice (Y0)) ts) : FnH prog (Env.gam e0) 6 [.d (Y2) n, .d (.slice (Y0)) ts] (aA []) (fun ae h1 => ae = .ret [B true] /\ h1 = aA []) := by
 have hl := (zf ht).2
 obtain ⟨op, nm, ins, out, ag, u⟩ := n
 have h : aC cx f6 7 [(7, [1, 5, 7]), (11, [1, 5, 7, 8, 9]), (14, [1, 5, 7, 8, 9, 10])] [cO op nm ins out ag, .d (.slice (Y0)) ts] [] ah = some (.ret [B true], []) := Px (VW hn) (zf ht).1 (by omega) fun X hX => (aU (List.all_eq_true.1 (zf ht).1 X hX)).2
 exact Ib JS bO func6 call6 (by decide +kernel) rfl h
end
end Go.Proofs.XRT
