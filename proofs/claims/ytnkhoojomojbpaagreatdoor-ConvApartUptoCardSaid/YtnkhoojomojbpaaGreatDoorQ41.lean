/- infer.maker.alike: told. -/
import Derived.Test.YtnkhoojomojbpaaGreatDoorQ40
import Derived.Shelf.Slices.Delete
import Derived.Shelf.Slices.Reverse
import Derived.Shelf.Sort.Plain
import Derived.Shelf.Spec.SlicesInsertGrow
import Derived.Laws.IdiomCopy
import Derived.Sort.Grow
import Derived.Sort.Row
import Derived.Shelf.Slices.In.SortNone
set_option maxRecDepth 100000
set_option maxHeartbeats 4000000
namespace Go.Proofs.XRT
open Go.Vm Go Tryz IntKind
noncomputable section
noncomputable def GC : Code := bD f251
noncomputable def TE : Code := cL (cL (cR (cL (cR GC))))
noncomputable def jb : Cfg := ⟨19, 5, 1, [(2, [0, 1, 7, 8])], true⟩
def vJ (t : Int) : LHp := [(0, .box (I t))]
theorem aaa (v : (Y3).den) (t : Int) : aC g65 f209 4 [] [.d (Y3) v, .op 0 [] 0] (vJ t) ah = some (aq.ret [B (v.2.1 != t)], [(0, al.box (I t))]) := by kernel_rfl
def aab : List AV -> LHp -> Option (aq × LHp)
 | [.d Y3 v, .op 0 [] 0], [(0, .box (.d zI t))] => some (.ret [B (v.2.1 != t)], vJ t)
 | _, _ => none
theorem TF : bE 209 (fnE aab) := by
 refine ic ui bX func209 call209 (depth := 4) (live := []) (by decide +kernel) rfl fun args hs p h => ?_
 unfold aab at h
 split at h
 ·cases h
  exact aaa _ _
 ·cases h
noncomputable def GD : Env := vn.add 209 (fnE aab)
theorem Np : GD.Good := fK.add TF
def Nq (vs : cg) (t : Int) (i : Int) : LSt := ⟨aw 5 [(0, .d (.slice (Y3)) vs), (1, .fn (.func 209) [] [.op 0 [] 0]), (7, I (Int.ofNat vs.length)), (8, I i)], vJ t, 2⟩
theorem aac (vs : cg) (t : Int) : aC GD f251 5 [(2, [0, 1, 7, 8])] [.d (.slice (Y3)) vs, .fn (.func 209) [] [.op 0 [] 0]] (vJ t) ah = (hlp GD jb) TE _ (Nq vs t 0) (aW 0 (bt GD jb [2] (hlp GD jb) (cR (cR GC)) (bA prog 1 f251.results.toList ah))) := (bI [2] jb rfl).trans (by obtain ⟨hl, h⟩ := bw GD jb; rw [h]; kernel_rfl)
theorem aad (vs : cg) (t : Int) (i : Int) (n : Nat) {R : Type} (k : AEx -> LSt -> Option R) : lp GD jb TE (n + 1) (Nq vs t i) k = bif decide (i < Int.ofNat vs.length) then (idx vs i).bind fun v1 => bif v1.2.1 != t then k AEx.ret { fr := aw 5 [(0, AV.d Y3.slice vs), (1, AV.fn (Fn.func 209) [] [AV.op 0 [] 0]), (4, I i), (5, I i), (7, I (Int.ofNat vs.length)), (8, I i), (9, B true), (10, I i), (11, AV.fn (Fn.func 209) [] [AV.op 0 [] 0]), (12, AV.d Y3.slice vs), (13, I i), (14, AV.ip Y3 v1), (15, AV.d Y3 v1), (16, B true), (17, I i)], hp := [(0, al.box (I t)), (0, al.box (I t))], nx := 3 } else lp GD jb TE n (Nq vs t (i64.wrap (i + 1))) k else k (AEx.exit 0) { fr := aw 5 [(0, AV.d Y3.slice vs), (1, AV.fn (Fn.func 209) [] [AV.op 0 [] 0]), (7, I (Int.ofNat vs.length)), (8, I i), (9, B false)], hp := [(0, al.box (I t))], nx := 2 } := by kernel_rfl
theorem TG {vs : cg} {t : Int} (hl : vs.length <= maxLen) : aC GD f251 5 [(2, [0, 1, 7, 8])] [.d (.slice (Y3)) vs, .fn (.func 209) [] [.op 0 [] 0]] (vJ t) ah = some (.ret [I (bu (fun v => v.2.1 != t) vs)], vJ t) := by
 rw [aac]
 have hs := fun (i : Int) (n : Nat) => aad vs t i n (aW 0 (bt GD jb [2] (hlp GD jb) (cR (cR GC)) (bA prog 1 f251.results.toList ah)))
 have h := fM (T := fun n s => lp GD jb TE n s (aW 0 (bt GD jb [2] (hlp GD jb) (cR (cR GC)) (bA prog 1 f251.results.toList ah)))) (xs := vs) (st := fun i => Nq vs t i) hl hs
 unfold Nq vJ at h
 refine h.trans ?_
 unfold bu
 cases hq : vs.findIdx? (fun v => v.2.1 != t) with
 | none => show _ = _; kernel_rfl
 | some i =>
  obtain ⟨hi, _⟩ := List.findIdx?_eq_some_iff_getElem.1 hq
  simp only [List.getElem?_eq_getElem hi, aA]
  show _ = _
  kernel_rfl
def aae : List AV -> LHp -> Tq
 | [.d (.slice Y3) vs, .fn (.func 209) [] [.op 0 [] 0]], [(0, .box (.d zI t))] => .br (decide (vs.length <= maxLen)) (.leaf (.ret [I (bu (fun v => v.2.1 != t) vs)]) (vJ t)) .no
 | _, _ => .no
theorem TH : bE 251 (ao aae) := by
 refine cj Np bX func251 call251 (depth := 5) (live := [(2, [0, 1, 7, 8])]) (by decide +kernel) rfl fun args hs p h => ?_
 unfold aae at h
 split at h
 ·obtain ⟨hl, h⟩ := Tq.br_no h
  cases h
  have hl := aZ hl
  exact TG hl
 ·cases h
noncomputable def afi : Env := vn.add 251 (ao aae)
theorem I1 : afi.Good := fK.add TH
theorem aaf (vs : cg) (t : Int) : aC afi f208 4 [] [.d (.slice (Y3)) vs, .fn (.func 209) [] [.op 0 [] 0]] (vJ t) ah = bif decide (vs.length <= 9223372036854775807) then some (aq.ret [B (decide (bu (fun v => v.snd.fst != t) vs >= 0))], [(0, al.box (I t))]) else none := by kernel_rfl
def aag : List AV -> LHp -> Tq
 | [.d (.slice Y3) vs, .fn (.func 209) [] [.op 0 [] 0]], [(0, .box (.d zI t))] => .br (decide (vs.length <= maxLen)) (.leaf (.ret [B (vs.any fun v => v.2.1 != t)]) (vJ t)) .no
 | _, _ => .no
theorem TI : bE 208 (ao aag) := by
 have h1 := bS (d := 4) (l := []) I1 func208 call208
 refine aO fun args hs ae aF h' => ?_
 unfold aag at h'
 split at h'
 ·refine h1.okC ((aaf _ _).trans ?_)
  rw [pG]
  exact h'
 ·cases h'
noncomputable def gAk : Env := vn.add 208 (ao aag)
theorem Nr : gAk.Good := fK.add TI
abbrev gu (n : (Y2).den) (vs : cg) : AV := .d (Y6) (n, vs, ())
theorem aah (n : (Y2).den) (vs : cg) (t : Int) : aC gAk f147 4 [] [gu n vs, I t] [] ah = bif decide (vs.length <= 9223372036854775807) then ay [B !vs.any fun v => v.snd.fst != t] else none := by kernel_rfl
def kI (vs : cg) (t : Int) : Bool := !vs.any fun v => v.2.1 != t
def aai : List AV -> LHp -> Tq
 | [.d Y6 (_, vs, _), .d zI t], [] => .br (decide (vs.length <= maxLen)) (.leaf (.ret [B (kI vs t)]) []) .no
 | _, _ => .no
theorem TJ : bE 147 (ao aai) := by
 have h1 := bS (d := 4) (l := []) Nr func147 call147
 refine aO fun args hs ae aF h' => ?_
 unfold aai at h'
 split at h'
 ·exact h1.okC ((aah _ _ _).trans h')
 ·cases h'
end
end Go.Proofs.XRT
namespace Go.Vm
def uI : aq -> Bool
 | .ret [.nils] => true
 | .ret [.emp] => true
 | _ => false
def Ns (T : TypeId) (e : Ty) (g : FnE) : FnE := { run := fun args hs k => g.run args hs fun ae aF => bif uI ae then (bif cF aF.length aF then k (.ret [.os aF.length 0]) (aF ++ [(aF.length, .arr T e 0 false [])]) else none) else k ae aF }
theorem Nt {hp : LHp} (h : cF hp.length hp = true) {o : Nat} (ho : hp.length <= o) : az hp o = none := by
 cases hq : az hp o with
 | none => rfl
 | some ob => exact absurd (cD h o ob hq) (by omega)
theorem lf : ∀ (hp : LHp) (n : Nat) (ob : al) (o : Nat), az (hp ++ [(n, ob)]) o = (match az hp o with | some x => some x | none => bif Nat.beq n o then some ob else none)
 | [], n, ob, o => by
  simp only [List.nil_append, az]
 | (a, x) :: r, n, ob, o => by
  simp only [List.cons_append, az]
  cases Nat.beq a o with
  | true => rfl
  | false => exact lf r n ob o
theorem uJ {P : Program} {Γ : Nat -> Option AV} {f : FuncId} {T : TypeId} {e : Ty} {g : FnE} (hg : FnE.OK P Γ f g) : FnE.OK P Γ f (Ns T e g) := by
 refine ⟨fun args hs k => ?_, fun args hs ae2 rn h => ?_⟩
 ·simp only [Ns]
  rw [hg.eq]
  conv => rhs; rw [hg.eq]
  cases g.run args hs (fun a h => some (a, h)) with
  | none => rfl
  | some p =>
   obtain ⟨ae, aF⟩ := p
   simp only [aA]
   cases uI ae with
   | false => rfl
   | true => cases cF aF.length aF <;> rfl
 ·simp only [Ns] at h
  obtain ⟨ae, aF, hrun, h⟩ := hg.nat _ _ _ _ h
  have hF := hg.ok _ _ _ _ hrun
  clear hrun
  cases hE : uI ae with
  | false => rw [hE, ax] at h; cases h; exact hF
  | true =>
   rw [hE, ak] at h
   cases hB : cF aF.length aF with
   | false => rw [hB] at h; cases h
   | true =>
    rw [hB, ak] at h
    cases h
    refine ⟨hF.1, fun W im μ vals himLt hglob hinv hrep => ?_⟩
    refine (hF.2 W im μ vals himLt hglob hinv hrep).mono ?_
    rintro ed w' ⟨mc, h1, bT, bm, ⟨rfl, rfl⟩, S, he⟩
    obtain ⟨v, a, e1, e2, e3⟩ : ∃ (v : Value) (a : Option Addr), ed = .returned v /\ v.cells.toList = [.slice a 0 0] /\ bh v = false := by
     unfold uI at hE
     split at hE
     ·obtain ⟨v, g1, g2, g3⟩ := he
      simp only [RepA] at g2
      exact ⟨v, none, g1, g2, g3⟩
     ·obtain ⟨v, g1, g2, g3⟩ := he
      simp only [RepA] at g2
      obtain ⟨a, g2⟩ := g2
      exact ⟨v, a, g1, g2, g3⟩
     ·cases hE
    have hnew : az aF aF.length = none := Nt hB (Nat.le_refl _)
    have gold : ∀ o ob, az aF o = some ob -> az (aF ++ [(aF.length, .arr T e 0 false [])]) o = some ob := fun o ob ho => by rw [lf, ho]
    have gnew : az (aF ++ [(aF.length, .arr T e 0 false [])]) aF.length = some (.arr T e 0 false []) := by rw [lf, hnew, Nat.beq_refl]; rfl
    have gno : ∀ o, az (aF ++ [(aF.length, .arr T e 0 false [])]) o = none -> az aF o = none /\ o ≠ aF.length := fun o ho => by
     rw [lf] at ho
     cases hq : az aF o with
     | some x => rw [hq] at ho; cases ho
     | none =>
      refine ⟨rfl, fun h => ?_⟩
      subst h
      rw [hq, Nat.beq_refl] at ho
      cases ho
    have gcase : ∀ o ob, az (aF ++ [(aF.length, .arr T e 0 false [])]) o = some ob -> az aF o = some ob \/ (o = aF.length /\ ob = .arr T e 0 false []) := fun o ob ho => by
     rw [lf] at ho
     cases hq : az aF o with
     | some x => rw [hq] at ho; exact .inl ho
     | none =>
      rw [hq] at ho
      cases hb : Nat.beq aF.length o with
      | false => rw [hb] at ho; cases ho
      | true =>
       rw [hb] at ho
       cases ho
       exact .inr ⟨(bo hb).symm, rfl⟩
    have lC : ∀ o ob, az aF o = some ob -> o ≠ aF.length := fun o ob ho h => by subst h; rw [hnew] at ho; cases ho
    obtain ⟨HD, m1, m2⟩ : ∃ HD : Mu, (∀ o, o ≠ aF.length -> HD o = bm o) /\ HD aF.length = Pl.nil a := ⟨fun o => if o = aF.length then Pl.nil a else bm o, fun o h => if_neg h, if_pos rfl⟩
    have mb : ∀ o b, (HD o).blk = some b -> o ≠ aF.length /\ (bm o).blk = some b := fun o b h => by
     by_cases ho : o = aF.length
     ·rw [ho, m2] at h; cases h
     ·exact ⟨ho, by rwa [m1 o ho] at h⟩
    have ev : Ev w' bT bm (az aF) w' bT HD (az (aF ++ [(aF.length, .arr T e 0 false [])])) :=
     ⟨fun _ h => h, fun _ _ => rfl, fun o ob ho => ⟨ob, gold o ob ho, by rw [m1 o (lC o ob ho)]; exact cZ.refl _ _⟩⟩
    refine ⟨_, _, bT, HD, ⟨rfl, rfl⟩, ⟨S.os, S.tape, S.output, S.grow, S.old, S.imSub, S.imNew, S.imLt, fun o b hb => S.own o b (mb o b hb).2, fun o ob ho => ?_, ⟨fun o b hb => S.inv.sep o b (mb o b hb).2, fun o o' b g1 g2 => S.inv.inj o o' b (mb o b g1).2 (mb o' b g2).2, fun o ho => ?_, fun o ob ho => ?_⟩⟩, v, e1, ?_, e3⟩
    ·obtain ⟨cx, g1, g2⟩ := S.fob o ob ho
     exact ⟨cx, gold o cx g1, by rw [m1 o (lC o cx g1)]; exact g2⟩
    ·obtain ⟨g1, g2⟩ := gno o ho
     rw [m1 o g2]
     exact S.inv.dom o g1
    ·rcases gcase o ob ho with g1 | ⟨rfl, rfl⟩
     ·rw [m1 o (lC o ob g1)]
      exact (S.inv.obj o ob g1).ev ev fun _ _ => rfl
     ·exact .inl ⟨a, m2, rfl⟩
    ·simp only [RepA]
     refine ⟨T, e, 0, false, [], gnew, Nat.le_refl _, .slice a 0 0, e2, rfl, fun _ => ?_⟩
     rw [m2]
     rfl
end Go.Vm
set_option maxRecDepth 100000
set_option maxHeartbeats 4000000
namespace Go.Proofs.XRT
open Go.Vm Go Tryz IntKind
noncomputable section
theorem aaj (a : Int) (d : ag) : aC vn f107 4 [] [.d (.slice af) (a :: d)] [] ah = (app [] (a :: d)).bind fun v0 => some (aq.ret [AV.os 0 0], [(0, al.arr 3 (af) 0 false v0)]) := by kernel_rfl
def Cb : List AV -> LHp -> Tq
 | [.d zS xs], [] => .br (decide (xs.length <= 2147483648)) (.leaf (.ret [.os 0 0]) [(0, .arr 3 af 0 false xs)]) .no
 | _, _ => .no
theorem nt : bE 107 (ao Cb) := by
 have h2 : bE 107 (Ns 3 af (au vn f107 4 [])) := uJ (bS fK func107 call107)
 have h1 : bE 107 (Ns 3 af R8) := uJ yz
 refine aO fun args hs ae aF h' => ?_
 unfold Cb at h'
 split at h'
 ·rename_i xs
  obtain ⟨hb, h3⟩ := Tq.br_no h'
  cases h3
  cases xs with
  | nil => exact h1.ok _ _ _ _ rfl
  | cons a d =>
   refine h2.ok _ _ _ _ ?_
   simp only [Ns]
   have h4 := bS fK func107 call107 (l := []) (d := 4)
   rw [h4.eq]
   have e : (au vn f107 4 []).run [.d (.slice af) (a :: d)] [] (fun a h => some (a, h)) = some (.ret [.os 0 0], [(0, .arr 3 af 0 false (a :: d))]) := (aaj a d).trans (by rw [Sv (aZ hb)]; rfl)
   rw [e]
   rfl
 ·cases h'
noncomputable def Nu : Code := bD f215
noncomputable def yN : Code := cL (cL (cR (cL (cR (cR (cR Nu))))))
noncomputable def fT : Cfg := ⟨47, 6, 0, [(4, [3, 4, 5, 14, 21, 22, 23])], true⟩
noncomputable def Ws : Code := bD f150
noncomputable def lR : Code := cL (cL (cR (cL (cR (cR (cR (cR (cR (cR (cR Ws))))))))))
noncomputable def dp : Cfg := ⟨63, 6, 0, [(9, [6, 7, 8, 39, 40, 41])], true⟩
noncomputable def Nv : Code := bD f216
noncomputable def fU : Code := cL (cL (cR (cL (cR (cR (cR Nv))))))
noncomputable def bR : Cfg := ⟨80, 7, 0, [(4, [1, 5, 6, 7, 13, 14, 15])], true⟩
noncomputable def Nw : Code := bD f219
noncomputable def Ew : Code := cL (cL (cR (cL (cR (cR (cR (cR (cR Nw))))))))
noncomputable def ir : Cfg := ⟨78, 7, 0, [(6, [1, 5, 6, 8, 41, 42, 43])], true⟩
noncomputable def w7 : Code := bD f218
noncomputable def rF : Code := cL (cL (cR (cL (cR (cR (cR w7))))))
noncomputable def Cc : Code := cL (cL (cR (cR (cR (cL (cL (cR (cR (cL (cL (cR (cL (cR (cR (cR w7)))))))))))))))
noncomputable def bY : Cfg := ⟨62, 6, 0, [(4, [1, 5, 6, 21, 22, 23]), (8, [1, 5, 6, 21, 22, 23, 35, 36, 37])], true⟩
noncomputable def Ny : Code := bD f217
noncomputable def yO : Code := cL (cL (cR (cL (cR (cR (cR (cR (cR Ny))))))))
noncomputable def fV : Cfg := ⟨47, 6, 0, [(6, [1, 6, 7, 24, 25, 26])], true⟩
noncomputable def Nz : Code := bD f221
noncomputable def Ex : Code := cL (cL (cR (cL (cR (cR (cR Nz))))))
noncomputable def iu : Cfg := ⟨41, 6, 0, [(4, [1, 5, 6, 17, 18])], true⟩
noncomputable def nH : Env := IJ.add 25 uC
theorem I2 : nH.Good := dY.add iF
noncomputable def afj : Env := (((IJ.add 25 uC).add 210 Z6).add 211 Z8).add 59 (ao uq)
theorem I3 : afj.Good := (((dY.add iF).add Gy).add GA).add jm
noncomputable def dZ : Env := Ei.add 25 uC
theorem I4 : dZ.Good := k9.add iF
noncomputable def afk : Env := (((g73.add 25 uC).add 210 Z6).add 211 Z8).add 107 (ao Cb)
theorem I5 : afk.Good := (((uk.add iF).add Gy).add GA).add nt
theorem aak (op nm : aj) (ins : List (aj)) (out : aj) (aa : bk) (name : aj) (ot : ag) (c lo hi : Int) : aC nH f215 6 [(4, [3, 4, 5, 14, 21, 22, 23])] [dh op nm ins out aa, .d .str name, .d (.slice af) ot, I c, I lo, I hi] [] ah = bif aD aa then bif decide (ot.length <= 2147483648) then (hlp nH fT) yN _ { fr := aw 6 [(3, I c), (4, I lo), (5, I hi), (14, AV.nils), (21, AV.d (af).slice (ai aa name ot)), (22, I (Int.ofNat (ai aa name ot).length)), (23, I 0)], hp := [], nx := 0 } (aW 0 (bt nH fT [4] (hlp nH fT) (cR (cR (cR (cR Nu)))) (bA prog 0 f215.results.toList ah))) else none else none := (bI [4] fT rfl).trans (by obtain ⟨hl, h⟩ := bw nH fT; rw [h]; kernel_rfl)
theorem aal (op nm : aj) (ins : List (aj)) (out : aj) (aa : bk) (vs : cg) (xs : ag) : aC dZ f216 7 [(4, [1, 5, 6, 7, 13, 14, 15])] [gu (op, nm, ins, out, aa, ()) vs, .d (.slice af) xs] [] ah = bif aD aa then (hlp dZ bR) fU _ { fr := aw 7 [(1, AV.d (af).slice xs), (5, I (-1)), (6, I 1), (7, AV.nils), (13, AV.d (af).slice (ai aa rD [])), (14, I (Int.ofNat (ai aa rD []).length)), (15, I 0)], hp := [], nx := 0 } (aW 0 (bt dZ bR [4] (hlp dZ bR) (cR (cR (cR (cR Nv)))) (bA prog 0 f216.results.toList ah))) else none := (bI [4] bR rfl).trans (by obtain ⟨hl, h⟩ := bw dZ bR; rw [h]; kernel_rfl)
noncomputable def GF : Code := bD f252
noncomputable def TK : Code := cL (cL (cR (cL (cR GF))))
noncomputable def jd : Cfg := ⟨19, 5, 0, [(2, [0, 1, 7, 8])], true⟩
def NA (xs : ag) (v : Int) (i : Int) : LSt := ⟨aw 5 [(0, .d (.slice af) xs), (1, I v), (7, I (Int.ofNat xs.length)), (8, I i)], [], 0⟩
theorem aam (xs : ag) (v : Int) : aC j9 f252 5 [(2, [0, 1, 7, 8])] [.d (.slice af) xs, I v] [] ah = (hlp j9 jd) TK _ (NA xs v 0) (aW 0 (bt j9 jd [2] (hlp j9 jd) (cR (cR GF)) (bA prog 0 f252.results.toList ah))) := (bI [2] jd rfl).trans (by obtain ⟨hl, h⟩ := bw j9 jd; rw [h]; kernel_rfl)
theorem aan (xs : ag) (v : Int) (i : Int) (n : Nat) {R : Type} (k : AEx -> LSt -> Option R) : lp j9 jd TK (n + 1) (NA xs v i) k = bif decide (i < Int.ofNat xs.length) then (idx xs i).bind fun v1 => bif v == v1 then k AEx.ret { fr := aw 5 [(0, AV.d (af).slice xs), (1, I v), (4, I i), (5, I i), (7, I (Int.ofNat xs.length)), (8, I i), (9, B true), (10, I i), (11, I v), (12, AV.d (af).slice xs), (13, I i), (14, AV.ip (af) v1), (15, I v1), (16, B true), (17, I i)], hp := [], nx := 0 } else lp j9 jd TK n (NA xs v (i64.wrap (i + 1))) k else k (AEx.exit 0) { fr := aw 5 [(0, AV.d (af).slice xs), (1, I v), (7, I (Int.ofNat xs.length)), (8, I i), (9, B false)], hp := [], nx := 0 } := by kernel_rfl
theorem TL {xs : ag} {v : Int} (hl : xs.length <= maxLen) : aC j9 f252 5 [(2, [0, 1, 7, 8])] [.d (.slice af) xs, I v] [] ah = some (.ret [I (bu (fun w => v == w) xs)], []) := by
 rw [aam]
 have hs := fun (i : Int) (n : Nat) => aan xs v i n (aW 0 (bt j9 jd [2] (hlp j9 jd) (cR (cR GF)) (bA prog 0 f252.results.toList ah)))
 have h := fM (T := fun n s => lp j9 jd TK n s (aW 0 (bt j9 jd [2] (hlp j9 jd) (cR (cR GF)) (bA prog 0 f252.results.toList ah)))) (xs := xs) (st := fun i => NA xs v i) hl hs
 unfold NA at h
 refine h.trans ?_
 unfold bu
 cases hq : xs.findIdx? (fun w => v == w) with
 | none => show _ = _; kernel_rfl
 | some i =>
  obtain ⟨hi, _⟩ := List.findIdx?_eq_some_iff_getElem.1 hq
  simp only [List.getElem?_eq_getElem hi, aA]
  show _ = _
  kernel_rfl
def aao : List AV -> LHp -> Tq
 | [.d zS xs, .d zI v], [] => .br (decide (xs.length <= maxLen)) (.leaf (.ret [I (bu (fun w => v == w) xs)]) []) .no
 | _, _ => .no
theorem TM : bE 252 (ao aao) := by
 refine cj jR bX func252 call252 (depth := 5) (live := [(2, [0, 1, 7, 8])]) (by decide +kernel) rfl fun args hs p h => ?_
 unfold aao at h
 split at h
 ·obtain ⟨hl, h⟩ := Tq.br_no h
  cases h
  have hl := aZ hl
  exact TL hl
 ·cases h
noncomputable def afl : Env := XZ.add 252 (ao aao)
theorem I6 : afl.Good := pz.add TM
theorem aap (xs : ag) (v : Int) : aC afl f212 4 [] [.d (.slice af) xs, I v] [] ah = bif decide (xs.length <= 9223372036854775807) then ay [B (decide (bu (fun w => v == w) xs >= 0))] else none := by kernel_rfl
def jq (xs : ag) (v : Int) : Bool := xs.any fun w => v == w
def TN : List AV -> LHp -> Tq
 | [.d zS xs, .d zI v], [] => .br (decide (xs.length <= maxLen)) (.leaf (.ret [B (jq xs v)]) []) .no
 | _, _ => .no
theorem GG : bE 212 (ao TN) := by
 have h1 := bS (d := 4) (l := []) I6 func212 call212
 refine aO fun args hs ae aF h' => ?_
 unfold TN at h'
 split at h'
 ·refine h1.okC ((aap _ _).trans ?_)
  rw [afe]
  exact h'
 ·cases h'
noncomputable def eV : Env := afj.add 212 (ao TN)
theorem Ey : eV.Good := I3.add GG
noncomputable def KNd : AEx -> LSt -> Option (aq × LHp) := (aW 0 (bt nH fT [4] (hlp nH fT) (cR (cR (cR (cR Nu)))) (bA prog 0 f215.results.toList ah)))
def Cd (c lo hi : Int) (l : ag) (i : Int) : LSt := { fr := aw 6 [(3, I c), (4, I lo), (5, I hi), (14, AV.nils), (21, .d (.slice af) l), (22, I (Int.ofNat l.length)), (23, I i)], hp := [], nx := 0 }
def Ez (o : ag) (c lo hi : Int) (l : ag) (i : Int) : LSt := { fr := aw 6 [(3, I c), (4, I lo), (5, I hi), (14, AV.os 0 0), (21, .d (.slice af) l), (22, I (Int.ofNat l.length)), (23, I i)], hp := [(0, .arr 3 af 0 false o)], nx := 1 }
theorem NB (c lo hi : Int) (l : ag) (i : Int) (n : Nat) {R : Type} (k : AEx -> LSt -> Option R) : lp nH fT yN (n + 1) (Cd c lo hi l i) k = bif decide (i < Int.ofNat l.length) then (idx l i).bind fun v1 => bif decide (lo <= v1) then bif !decide (v1 <= hi) then k (AEx.panic 131 4) { fr := aw 6 [(3, I c), (4, I lo), (5, I hi), (14, AV.nils), (16, I v1), (21, AV.d (af).slice l), (22, I (Int.ofNat l.length)), (23, I i), (24, B true), (25, AV.ip (af) v1), (26, I v1), (27, I lo), (28, I v1), (29, B (decide (lo <= v1))), (30, B true), (31, I v1), (32, I hi), (33, B (decide (v1 <= hi))), (34, B (decide (v1 <= hi)))], hp := [], nx := 0 } else lp nH fT yN n (Ez [v1] c lo hi l (i64.wrap (i + 1))) k else k (AEx.panic 131 4) { fr := aw 6 [(3, I c), (4, I lo), (5, I hi), (14, AV.nils), (16, I v1), (21, AV.d (af).slice l), (22, I (Int.ofNat l.length)), (23, I i), (24, B true), (25, AV.ip (af) v1), (26, I v1), (27, I lo), (28, I v1), (29, B (decide (lo <= v1))), (30, B false), (31, AV.tup []), (32, AV.tup []), (33, AV.tup []), (34, B false)], hp := [], nx := 0 } else k (AEx.exit 0) { fr := aw 6 [(3, I c), (4, I lo), (5, I hi), (14, AV.nils), (21, AV.d (af).slice l), (22, I (Int.ofNat l.length)), (23, I i), (24, B false)], hp := [], nx := 0 } := by kernel_rfl
theorem NC (v : Int) (o : ag) (c lo hi : Int) (l : ag) (i : Int) (n : Nat) {R : Type} (k : AEx -> LSt -> Option R) : lp nH fT yN (n + 1) (Ez (v :: o) c lo hi l i) k = bif decide (i < Int.ofNat l.length) then (idx l i).bind fun v1 => bif decide (lo <= v1) then bif !decide (v1 <= hi) then k (AEx.panic 131 4) { fr := aw 6 [(3, I c), (4, I lo), (5, I hi), (14, AV.os 0 0), (16, I v1), (21, AV.d (af).slice l), (22, I (Int.ofNat l.length)), (23, I i), (24, B true), (25, AV.ip (af) v1), (26, I v1), (27, I lo), (28, I v1), (29, B (decide (lo <= v1))), (30, B true), (31, I v1), (32, I hi), (33, B (decide (v1 <= hi))), (34, B (decide (v1 <= hi)))], hp := [(0, al.arr 3 (af) 0 false (v :: o))], nx := 1 } else (app (v :: o) [v1]).bind fun v4 => lp nH fT yN n (Ez v4 c lo hi l (i64.wrap (i + 1))) k else k (AEx.panic 131 4) { fr := aw 6 [(3, I c), (4, I lo), (5, I hi), (14, AV.os 0 0), (16, I v1), (21, AV.d (af).slice l), (22, I (Int.ofNat l.length)), (23, I i), (24, B true), (25, AV.ip (af) v1), (26, I v1), (27, I lo), (28, I v1), (29, B (decide (lo <= v1))), (30, B false), (31, AV.tup []), (32, AV.tup []), (33, AV.tup []), (34, B false)], hp := [(0, al.arr 3 (af) 0 false (v :: o))], nx := 1 } else k (AEx.exit 0) { fr := aw 6 [(3, I c), (4, I lo), (5, I hi), (14, AV.os 0 0), (21, AV.d (af).slice l), (22, I (Int.ofNat l.length)), (23, I i), (24, B false)], hp := [(0, al.arr 3 (af) 0 false (v :: o))], nx := 1 } := by kernel_rfl
theorem aaq (c lo hi : Int) (l : ag) (i : Int) : KNd (.exit 0) { fr := aw 6 [(3, I c), (4, I lo), (5, I hi), (14, AV.nils), (21, AV.d (af).slice l), (22, I (Int.ofNat l.length)), (23, I i), (24, B false)], hp := [], nx := 0 } = bif !0 == c then aV else ay [AV.nils] := by kernel_rfl
theorem aar (o : ag) (c lo hi : Int) (l : ag) (i : Int) : KNd (.exit 0) { fr := aw 6 [(3, I c), (4, I lo), (5, I hi), (14, AV.os 0 0), (21, AV.d (af).slice l), (22, I (Int.ofNat l.length)), (23, I i), (24, B false)], hp := [(0, al.arr 3 (af) 0 false o)], nx := 1 } = bif !Int.ofNat o.length == c then aV else some (aq.ret [AV.os 0 0], [(0, al.arr 3 (af) 0 false o)]) := by kernel_rfl
def jX (g : ag) (c : Int) (l : ag) (i : Int) : LSt := { fr := aw 6 [(6, .d (.slice af) g), (7, I c), (8, AV.nils), (39, .d (.slice af) l), (40, I (Int.ofNat l.length)), (41, I i)], hp := [], nx := 0 }
def pI (o g : ag) (c : Int) (l : ag) (i : Int) : LSt := { fr := aw 6 [(6, .d (.slice af) g), (7, I c), (8, AV.os 0 0), (39, .d (.slice af) l), (40, I (Int.ofNat l.length)), (41, I i)], hp := [(0, .arr 3 af 0 false o)], nx := 1 }
noncomputable def ND : AEx -> LSt -> Option (aq × LHp) := (aW 0 (bt eV dp [9] (hlp eV dp) (cR (cR (cR (cR (cR (cR (cR (cR Ws)))))))) (bA prog 0 f150.results.toList ah)))
theorem TO (op nm : aj) (ins : List (aj)) (out : aj) (aa : bk) (vs : cg) (xs : ag) : aC eV f150 6 [(9, [6, 7, 8, 39, 40, 41])] [gu (op, nm, ins, out, aa, ()) vs, .d (.slice af) xs] [] ah = bif decide (0 <= Int.ofNat xs.length /\ Int.ofNat xs.length <= 2147483648) then bif aD aa then bif decide ((jy (Int.ofNat xs.length).toNat).length <= 2147483648) then bif op == yq then bif decide (aa.length <= 9223372036854775807) then bif fD (Int.ofNat xs.length) [aX aa fR 0] [] then bif decide (aa.length <= 9223372036854775807) then bif aX aa yr 1 == 0 then (hlp eV dp) lR _ (jX [lD (aX aa fR 0) (Int.ofNat xs.length)] (aX aa yr 1) xs 0) ND else bif !aX aa yr 1 == 1 then aV else (hlp eV dp) lR _ (jX [lD (aX aa fR 0) (Int.ofNat xs.length)] (aX aa yr 1) xs 0) ND else none else aV else none else bif decide ((ai aa jP (jy (Int.ofNat xs.length).toNat)).length <= 2147483648) then bif fD (Int.ofNat xs.length) (ai aa jP (jy (Int.ofNat xs.length).toNat)) [] then bif decide (aa.length <= 9223372036854775807) then bif aX aa yr 1 == 0 then (hlp eV dp) lR _ (jX (me (ai aa jP (jy (Int.ofNat xs.length).toNat)) (Int.ofNat xs.length)) (aX aa yr 1) xs 0) ND else bif !aX aa yr 1 == 1 then aV else (hlp eV dp) lR _ (jX (me (ai aa jP (jy (Int.ofNat xs.length).toNat)) (Int.ofNat xs.length)) (aX aa yr 1) xs 0) ND else none else aV else none else none else none else none := (bI [9] dp rfl).trans (by obtain ⟨hl, h⟩ := bw eV dp; rw [h]; kernel_rfl)
theorem NF (g : ag) (c : Int) (l : ag) (i : Int) (n : Nat) {R : Type} (k : AEx -> LSt -> Option R) : lp eV dp lR (n + 1) (jX g c l i) k = bif decide (i < Int.ofNat l.length) then (idx l i).bind fun v1 => bif decide (g.length <= 9223372036854775807) then bif !jq g i then lp eV dp lR n (pI [v1] g c l (i64.wrap (i + 1))) k else bif c == 1 then lp eV dp lR n (pI [1] g c l (i64.wrap (i + 1))) k else lp eV dp lR n (jX g c l (i64.wrap (i + 1))) k else none else k (AEx.exit 0) { fr := aw 6 [(6, AV.d (af).slice g), (7, I c), (8, AV.nils), (39, AV.d (af).slice l), (40, I (Int.ofNat l.length)), (41, I i), (42, B false)], hp := [], nx := 0 } := by kernel_rfl
theorem NG (v : Int) (o g : ag) (c : Int) (l : ag) (i : Int) (n : Nat) {R : Type} (k : AEx -> LSt -> Option R) : lp eV dp lR (n + 1) (pI (v :: o) g c l i) k = bif decide (i < Int.ofNat l.length) then (idx l i).bind fun v1 => bif decide (g.length <= 9223372036854775807) then bif !jq g i then (app (v :: o) [v1]).bind fun v4 => lp eV dp lR n (pI v4 g c l (i64.wrap (i + 1))) k else bif c == 1 then (app (v :: o) [1]).bind fun v5 => lp eV dp lR n (pI v5 g c l (i64.wrap (i + 1))) k else lp eV dp lR n (pI (v :: o) g c l (i64.wrap (i + 1))) k else none else k (AEx.exit 0) { fr := aw 6 [(6, AV.d (af).slice g), (7, I c), (8, AV.os 0 0), (39, AV.d (af).slice l), (40, I (Int.ofNat l.length)), (41, I i), (42, B false)], hp := [(0, al.arr 3 (af) 0 false (v :: o))], nx := 1 } := by kernel_rfl
def ri (xs : ag) (a p : Int) (l : ag) (i : Int) : LSt := { fr := aw 7 [(1, .d (.slice af) xs), (5, I a), (6, I p), (7, AV.nils), (13, .d (.slice af) l), (14, I (Int.ofNat l.length)), (15, I i)], hp := [], nx := 0 }
def gN (o xs : ag) (a p : Int) (l : ag) (i : Int) : LSt := { fr := aw 7 [(1, .d (.slice af) xs), (5, I a), (6, I p), (7, AV.os 0 0), (13, .d (.slice af) l), (14, I (Int.ofNat l.length)), (15, I i)], hp := [(0, .arr 3 af 0 false o)], nx := 1 }
noncomputable def oN : AEx -> LSt -> Option (aq × LHp) := (aW 0 (bt dZ bR [4] (hlp dZ bR) (cR (cR (cR (cR Nv)))) (bA prog 0 f216.results.toList ah)))
theorem NH (xs : ag) (a p : Int) (l : ag) (i : Int) (n : Nat) : lp dZ bR fU (n + 1) (ri xs a p l i) oN = bif decide (i < Int.ofNat l.length) then (idx l i).bind fun v1 => bif v1 == -1 then bif decide (a < 0) then bif !decide (i64.wrap (p * 1) <= 65536) then aV else lp dZ bR fU n (gN [1] xs i (i64.wrap (p * 1)) l (i64.wrap (i + 1))) oN else bif v1 == 0 then bif decide (i < Int.ofNat xs.length) then (idx xs i).bind fun v6 => bif decide (v6 >= 1) then bif !decide (v6 <= 65536) then aV else bif !decide (i64.wrap (p * v6) <= 65536) then aV else lp dZ bR fU n (gN [v6] xs a (i64.wrap (p * v6)) l (i64.wrap (i + 1))) oN else aV else bif decide (v1 >= 1) then bif !decide (v1 <= 65536) then aV else bif !decide (i64.wrap (p * v1) <= 65536) then aV else lp dZ bR fU n (gN [v1] xs a (i64.wrap (p * v1)) l (i64.wrap (i + 1))) oN else aV else bif decide (v1 >= 1) then bif !decide (v1 <= 65536) then aV else bif !decide (i64.wrap (p * v1) <= 65536) then aV else lp dZ bR fU n (gN [v1] xs a (i64.wrap (p * v1)) l (i64.wrap (i + 1))) oN else aV else bif v1 == 0 then bif decide (i < Int.ofNat xs.length) then (idx xs i).bind fun v5 => bif decide (v5 >= 1) then bif !decide (v5 <= 65536) then aV else bif !decide (i64.wrap (p * v5) <= 65536) then aV else lp dZ bR fU n (gN [v5] xs a (i64.wrap (p * v5)) l (i64.wrap (i + 1))) oN else aV else bif decide (v1 >= 1) then bif !decide (v1 <= 65536) then aV else bif !decide (i64.wrap (p * v1) <= 65536) then aV else lp dZ bR fU n (gN [v1] xs a (i64.wrap (p * v1)) l (i64.wrap (i + 1))) oN else aV else bif decide (v1 >= 1) then bif !decide (v1 <= 65536) then aV else bif !decide (i64.wrap (p * v1) <= 65536) then aV else lp dZ bR fU n (gN [v1] xs a (i64.wrap (p * v1)) l (i64.wrap (i + 1))) oN else aV else bif decide (xs.length <= 9223372036854775807) then bif decide (a >= 0) then (if p = 0 then none else some ((aR xs).tmod p)).bind fun v3 => bif !v3 == 0 then aV else (if p = 0 then none else some (i64.wrap ((aR xs).tdiv p))).bind fun v5 => none else bif !aR xs == p then aV else ay [AV.nils] else none := by kernel_rfl
theorem NI (v : Int) (o xs : ag) (a p : Int) (l : ag) (i : Int) (n : Nat) : lp dZ bR fU (n + 1) (gN (v :: o) xs a p l i) oN = bif decide (i < Int.ofNat l.length) then (idx l i).bind fun v1 => bif v1 == -1 then bif decide (a < 0) then bif !decide (i64.wrap (p * 1) <= 65536) then aV else (app (v :: o) [1]).bind fun v5 => lp dZ bR fU n (gN v5 xs i (i64.wrap (p * 1)) l (i64.wrap (i + 1))) oN else bif v1 == 0 then bif decide (i < Int.ofNat xs.length) then (idx xs i).bind fun v6 => bif decide (v6 >= 1) then bif !decide (v6 <= 65536) then aV else bif !decide (i64.wrap (p * v6) <= 65536) then aV else (app (v :: o) [v6]).bind fun v10 => lp dZ bR fU n (gN v10 xs a (i64.wrap (p * v6)) l (i64.wrap (i + 1))) oN else aV else bif decide (v1 >= 1) then bif !decide (v1 <= 65536) then aV else bif !decide (i64.wrap (p * v1) <= 65536) then aV else (app (v :: o) [v1]).bind fun v9 => lp dZ bR fU n (gN v9 xs a (i64.wrap (p * v1)) l (i64.wrap (i + 1))) oN else aV else bif decide (v1 >= 1) then bif !decide (v1 <= 65536) then aV else bif !decide (i64.wrap (p * v1) <= 65536) then aV else (app (v :: o) [v1]).bind fun v8 => lp dZ bR fU n (gN v8 xs a (i64.wrap (p * v1)) l (i64.wrap (i + 1))) oN else aV else bif v1 == 0 then bif decide (i < Int.ofNat xs.length) then (idx xs i).bind fun v5 => bif decide (v5 >= 1) then bif !decide (v5 <= 65536) then aV else bif !decide (i64.wrap (p * v5) <= 65536) then aV else (app (v :: o) [v5]).bind fun v9 => lp dZ bR fU n (gN v9 xs a (i64.wrap (p * v5)) l (i64.wrap (i + 1))) oN else aV else bif decide (v1 >= 1) then bif !decide (v1 <= 65536) then aV else bif !decide (i64.wrap (p * v1) <= 65536) then aV else (app (v :: o) [v1]).bind fun v8 => lp dZ bR fU n (gN v8 xs a (i64.wrap (p * v1)) l (i64.wrap (i + 1))) oN else aV else bif decide (v1 >= 1) then bif !decide (v1 <= 65536) then aV else bif !decide (i64.wrap (p * v1) <= 65536) then aV else (app (v :: o) [v1]).bind fun v7 => lp dZ bR fU n (gN v7 xs a (i64.wrap (p * v1)) l (i64.wrap (i + 1))) oN else aV else bif decide (xs.length <= 9223372036854775807) then bif decide (a >= 0) then (if p = 0 then none else some ((aR xs).tmod p)).bind fun v3 => bif !v3 == 0 then aV else (if p = 0 then none else some (i64.wrap ((aR xs).tdiv p))).bind fun v5 => (idx (v :: o) a).bind fun v6 => (fJ (v :: o) a.toNat v5).bind fun v7 => some (aq.ret [AV.os 0 0], [(0, al.arr 3 (af) 0 false v7)]) else bif !aR xs == p then aV else some (aq.ret [AV.os 0 0], [(0, al.arr 3 (af) 0 false (v :: o))]) else none := by kernel_rfl
theorem aas (k r : Int) : aC Ei f256 4 [] [I k, I r] [] ah = bif decide (k < 0) then ay [I (if (if r < i64.wrap (k + r) then r else i64.wrap (k + r)) > 0 then if r < i64.wrap (k + r) then r else i64.wrap (k + r) else 0)] else ay [I (if (if r < k then r else k) > 0 then if r < k then r else k else 0)] := by kernel_rfl
def stN (c lo hi : Int) (l : ag) (i : Int) (o : ag) : LSt := match o with
 | [] => Cd c lo hi l i
 | v :: o => Ez (v :: o) c lo hi l i
def nuN (lo hi : Int) (o : ag) (x : Int) : Nx (ag) (aq × LHp) := bif decide (lo <= x) && decide (x <= hi) then .go (o ++ [x]) else .stop (some (.panic 131 4, []))
def Ce (c : Int) (o : ag) : Option (aq × LHp) := bif Int.ofNat o.length == c then gW 3 o else some (.panic 131 4, [])
theorem GH (c lo hi : Int) : ∀ (l o : ag), cm (nuN lo hi) (Ce c) l o = bif cX lo hi l then Ce c (o ++ l) else some (.panic 131 4, [])
 | [], o => by rw [cm, List.append_nil]; rfl
 | x :: l, o => by
  rw [cm]
  unfold nuN
  have e : cX lo hi (x :: l) = (decide (lo <= x) && decide (x <= hi) && cX lo hi l) := by unfold cX; rw [List.all_cons]
  rw [e]
  cases decide (lo <= x) && decide (x <= hi) with
  | false => rfl
  | true =>
   show cm (nuN lo hi) _ l _ = _
   rw [GH c lo hi l, List.append_assoc]
   rfl
theorem aat {l : ag} {c lo hi : Int} (hl : l.length <= 2147483648) : lp nH fT yN fu (Cd c lo hi l 0) KNd = bif cy c lo hi l then gW 3 l else some (.panic 131 4, []) := by
 have hm : maxLen = 9223372036854775807 := by decide
 refine (dD (xs := l) (T := fun n s => lp nH fT yN n s KNd) (st := stN c lo hi l) (f := nuN lo hi) (fin := Ce c) (fun i o => o.length = i) (by omega) ?_ ?_ (a := []) rfl).trans ?_
 ·intro i o x n hI fq gx gi hw hd
  unfold nuN
  cases o with
  | nil =>
   show (∃ a', _ /\ _ /\ lp _ _ _ (n + 1) (Cd c lo hi l (i : Int)) _ = _) \/ (∃ r', _ /\ lp _ _ _ (n + 1) (Cd c lo hi l (i : Int)) _ = _)
   rw [NB, hd, ak, gi, aA, hw]
   cases decide (lo <= x) with
   | false => exact .inr ⟨_, rfl, by show _ = _; kernel_rfl⟩
   | true =>
    cases decide (x <= hi) with
    | false => exact .inr ⟨_, rfl, by show _ = _; kernel_rfl⟩
    | true => exact .inl ⟨_, rfl, by simp only [List.length_append, List.length_singleton, hI], rfl⟩
  | cons v o =>
   have lA : (v :: o).length + [x].length <= lim := by rw [hI, List.length_singleton, show lim = 4294967296 from rfl]; omega
   show (∃ a', _ /\ _ /\ lp _ _ _ (n + 1) (Ez (v :: o) c lo hi l (i : Int)) _ = _) \/ (∃ r', _ /\ lp _ _ _ (n + 1) (Ez (v :: o) c lo hi l (i : Int)) _ = _)
   rw [NC, hd, ak, gi, aA, hw, fB lA]
   cases decide (lo <= x) with
   | false => exact .inr ⟨_, rfl, by show _ = _; kernel_rfl⟩
   | true =>
    cases decide (x <= hi) with
    | false => exact .inr ⟨_, rfl, by show _ = _; kernel_rfl⟩
    | true => exact .inl ⟨_, rfl, by simp only [List.length_append, List.length_singleton, hI], rfl⟩
 ·intro o n hI hd
  unfold Ce
  cases o with
  | nil =>
   show lp _ _ _ (n + 1) (Cd c lo hi l (l.length : Int)) _ = _
   rw [NB, hd, ax]
   have e := aaq c lo hi l (l.length : Int)
   refine e.trans ?_
   cases Int.ofNat ([] : ag).length == c <;> rfl
  | cons v o =>
   show lp _ _ _ (n + 1) (Ez (v :: o) c lo hi l (l.length : Int)) _ = _
   rw [NC, hd, ax]
   have e := aar (v :: o) c lo hi l (l.length : Int)
   refine e.trans ?_
   cases Int.ofNat (v :: o).length == c <;> rfl
 ·rw [GH, List.nil_append]
  unfold cy Ce
  cases cX lo hi l with
  | false => rfl
  | true => cases Int.ofNat l.length == c <;> rfl
theorem afn (c lo hi : Int) (l : ag) : hlp nH fT yN (aq × LHp) (Cd c lo hi l 0) KNd = lp nH fT yN fu (Cd c lo hi l 0) KNd := rfl
def nuD : List AV -> LHp -> Tq
 | [.d Y2 (_, _, _, _, aa, _), .d .str name, .d zS ot, .d zI c, .d zI lo, .d zI hi], [] => .br (aD aa) (.br (decide (ot.length <= 2147483648)) (.br (cy c lo hi (ai aa name ot)) (dat (.slice af) (ai aa name ot)) (pnc 131 4)) .no) .no
 | _, _ => .no
theorem aau : bE 215 (ao nuD) := by
 have h1 := bS (d := 6) (l := [(4, [3, 4, 5, 14, 21, 22, 23])]) I2 func215 call215
 refine aO fun args hs ae aF h' => ?_
 unfold nuD at h'
 split at h'
 ·rename_i op nm ins out aa _ name ot c lo hi
  obtain ⟨hs, h2⟩ := Tq.br_no h'
  obtain ⟨hb, h3⟩ := Tq.br_no h2
  have hb := aZ hb
  have hL := jW hs name hb
  refine h1.okO (.slice af) (Eq.trans ?_ h3)
  refine Eq.trans (congrArg (dj _) (aak op nm ins out aa name ot c lo hi)) ?_
  rw [hs, ak, aE hb, ak]
  refine Eq.trans (congrArg (dj _) ((afn _ _ _ _).trans (aat hL))) ?_
  rw [BY, jV]
  rfl
 ·cases h'
noncomputable def TP : FnE := cU [(Y2), .str, .slice af, af, af, af] (ao nuD)
theorem yP : bE 215 TP := bF aau
def PM (g : ag) (c : Int) : Nat -> List Int -> ag
 | _, [] => []
 | i, d :: r => bif !jq g (i : Int) then d :: PM g c (i + 1) r else bif c == 1 then 1 :: PM g c (i + 1) r else PM g c (i + 1) r
def aav (g : ag) (c : Int) (l : ag) (i : Int) (a : Nat × ag) : LSt := match a.2 with
 | [] => jX g c l i
 | v :: o => pI (v :: o) g c l i
def reN (g : ag) (c : Int) (a : Nat × ag) (x : Int) : Nx (Nat × ag) (aq × LHp) := .go (a.1 + 1, bif !jq g (a.1 : Int) then a.2 ++ [x] else bif c == 1 then a.2 ++ [1] else a.2)
theorem GI (g : ag) (c : Int) : ∀ (l : ag) (i : Nat) (o : ag), cm (reN g c) (fun a => gW 3 a.2) l (i, o) = gW 3 (o ++ PM g c i l)
 | [], i, o => by rw [cm, PM, List.append_nil]
 | x :: l, i, o => by
  rw [cm]
  show cm (reN g c) _ l (i + 1, _) = _
  rw [GI g c l, PM]
  cases jq g (i : Int) with
  | false => show gW _ ((o ++ [x]) ++ _) = _; rw [List.append_assoc]; rfl
  | true =>
   cases c == 1 with
   | true => show gW _ ((o ++ [1]) ++ _) = _; rw [List.append_assoc]; rfl
   | false => rfl
theorem aaw {g l : ag} {c : Int} (hg : g.length <= 2147483648) (hl : l.length <= 2147483648) : lp eV dp lR fu (jX g c l 0) ND = gW 3 (PM g c 0 l) := by
 have hm : maxLen = 9223372036854775807 := by decide
 refine (dD (xs := l) (T := fun n s => lp eV dp lR n s ND) (st := aav g c l) (f := reN g c) (fin := fun a => gW 3 a.2) (fun i a => a.1 = i /\ a.2.length <= i) (by omega) ?_ ?_ (a := (0, [])) ⟨rfl, Nat.le_refl _⟩).trans (GI g c l 0 [])
 ·rintro i ⟨i', o⟩ x n ⟨rfl, hI⟩ fq gx gi hw hd
  have hI : o.length <= i' := hI
  refine .inl ⟨_, rfl, ⟨rfl, ?_⟩, ?_⟩
  ·show List.length (bif _ then _ else _) <= i' + 1
   cases !jq g (i' : Int) with
   | true => rw [ak, List.length_append, List.length_singleton]; omega
   | false =>
    cases c == 1 with
    | true => rw [ax, ak, List.length_append, List.length_singleton]; omega
    | false => rw [ax, ax]; omega
  ·cases o with
   | nil =>
    show lp _ _ _ (n + 1) (jX g c l (i' : Int)) _ = _
    rw [NF, hd, ak, gi, aA, hw, aE (show g.length <= 9223372036854775807 by omega), ak]
    show _ = lp _ _ _ n (aav g c l _ (i' + 1, bif !jq g (i' : Int) then [] ++ [x] else bif c == 1 then [] ++ [1] else [])) _
    cases !jq g (i' : Int) with
    | true => rfl
    | false => cases c == 1 <;> rfl
   | cons v o =>
    have lA : ∀ y : Int, (v :: o).length + [y].length <= lim := fun y => by rw [List.length_singleton, show lim = 4294967296 from rfl]; omega
    show lp _ _ _ (n + 1) (pI (v :: o) g c l (i' : Int)) _ = _
    rw [NG, hd, ak, gi, aA, hw, aE (show g.length <= 9223372036854775807 by omega), ak, fB (lA x), fB (lA 1)]
    show _ = lp _ _ _ n (aav g c l _ (i' + 1, bif !jq g (i' : Int) then (v :: o) ++ [x] else bif c == 1 then (v :: o) ++ [1] else (v :: o))) _
    cases !jq g (i' : Int) with
    | true => rfl
    | false => cases c == 1 <;> rfl
 ·rintro ⟨i', o⟩ n ⟨hI, _⟩ hd
  cases o with
  | nil =>
   show lp _ _ _ (n + 1) (jX g c l (l.length : Int)) _ = _
   rw [NF, hd, ax]
   show _ = _
   kernel_rfl
  | cons v o =>
   show lp _ _ _ (n + 1) (pI (v :: o) g c l (l.length : Int)) _ = _
   rw [NG, hd, ax]
   show _ = _
   kernel_rfl
theorem afo (g : ag) (c : Int) (l : ag) : hlp eV dp lR (aq × LHp) (jX g c l 0) ND = lp eV dp lR fu (jX g c l 0) ND := rfl
def dN : aj := jP
def eX : aj := fR
def dO : aj := yr
def qE : aj := yq
def aax (op : aj) (aa : bk) (xs : ag) : ag := bif op == qE then [aX aa eX 0] else ai aa dN (jy xs.length)
def TQ (op : aj) (aa : bk) (xs : ag) : Bool := fD (Int.ofNat xs.length) (aax op aa xs) [] && (aX aa dO 1 == 0 || aX aa dO 1 == 1)
def aay (op : aj) (aa : bk) (xs : ag) : ag := PM (me (aax op aa xs) (Int.ofNat xs.length)) (aX aa dO 1) 0 xs
theorem nu (N : Nat) : (jy N).length = N := by simp [jy]
theorem iG (l : ag) (r : Int) : (me l r).length = l.length := by simp [me]
def aaz : List AV -> LHp -> Tq
 | [.d Y6 ((op, _, _, _, aa, _), _, _), .d zS xs], [] => .br (aD aa) (.br (decide (xs.length <= 2147483648)) (.br (TQ op aa xs) (dat (.slice af) (aay op aa xs)) (pnc 131 4)) .no) .no
 | _, _ => .no
theorem TR : bE 150 (ao aaz) := by
 have h1 := bS (d := 6) (l := [(9, [6, 7, 8, 39, 40, 41])]) Ey func150 call150
 refine aO fun args hs ae aF h' => ?_
 unfold aaz at h'
 split at h'
 ·rename_i op nm ins out aa _ vs _ xs
  obtain ⟨hs, h2⟩ := Tq.br_no h'
  obtain ⟨hb, h3⟩ := Tq.br_no h2
  have hb := aZ hb
  have hlen := bQ hs
  refine h1.okO (.slice af) (Eq.trans ?_ h3)
  refine Eq.trans (congrArg (dj _) (TO op nm ins out aa vs xs)) ?_
  have en : (Int.ofNat xs.length).toNat = xs.length := rfl
  have hL := jW hs dN (ot := jy xs.length) (by rw [nu]; exact hb)
  have fin1 : ∀ (g : ag) (c : Int), g.length <= 2147483648 -> dj (.slice af) (hlp eV dp lR _ (jX g c xs 0) ND) = some (.ret [.d (.slice af) (PM g c 0 xs)], []) := fun g c hg => by
   refine Eq.trans (congrArg (dj _) ((afo g c xs).trans (aaw hg hb))) ?_
   exact jV _ _
  rw [aE (show 0 <= Int.ofNat xs.length /\ Int.ofNat xs.length <= 2147483648 from ⟨by simp only [aT]; omega, by simp only [aT]; omega⟩), ak, hs, ak, en, aE (show (jy xs.length).length <= 2147483648 by rw [nu]; exact hb), ak, aE (show aa.length <= 9223372036854775807 by omega), ak]
  show _ = (bif TQ op aa xs then _ else _)
  unfold TQ aay aax
  change dj _ (bif op == qE then (bif fD (Int.ofNat xs.length) [aX aa eX 0] [] then (bif true then (bif aX aa dO 1 == 0 then _ else (bif !(aX aa dO 1 == 1) then _ else _)) else _) else _) else (bif decide ((ai aa dN (jy xs.length)).length <= 2147483648) then (bif fD (Int.ofNat xs.length) (ai aa dN (jy xs.length)) [] then (bif true then (bif aX aa dO 1 == 0 then _ else (bif !(aX aa dO 1 == 1) then _ else _)) else _) else _) else _)) = _
  rw [aE hL, ak, ak, ak]
  have key : ∀ (g : ag), g.length <= 2147483648 -> dj (.slice af) (bif aX aa dO 1 == 0 then hlp eV dp lR _ (jX g (aX aa dO 1) xs 0) ND else (bif !(aX aa dO 1 == 1) then some (.panic 131 4, []) else hlp eV dp lR _ (jX g (aX aa dO 1) xs 0) ND)) = (bif (aX aa dO 1 == 0 || aX aa dO 1 == 1) then (some (.ret [.d (.slice af) (PM g (aX aa dO 1) 0 xs)], []) : Option (aq × LHp)) else some (.panic 131 4, [])) := fun g hg => by
   cases aX aa dO 1 == 0 with
   | true => rw [ak, Bool.true_or, ak]; exact fin1 g _ hg
   | false =>
    rw [ax, Bool.false_or]
    cases aX aa dO 1 == 1 with
    | true => rw [Bool.not_true, ax, ak]; exact fin1 g _ hg
    | false => rfl
  cases op == qE with
  | true =>
   rw [ak, ak]
   cases fD (Int.ofNat xs.length) [aX aa eX 0] [] with
   | false => rfl
   | true =>
    rw [ak, Bool.true_and]
    exact key [lD (aX aa eX 0) (Int.ofNat xs.length)] (by simp)
  | false =>
   rw [ax, ax]
   cases fD (Int.ofNat xs.length) (ai aa dN (jy xs.length)) [] with
   | false => rfl
   | true =>
    rw [ak, Bool.true_and]
    exact key _ (by rw [iG]; exact hL)
 ·cases h'
noncomputable def afp : FnE := cU [(Y6), .slice af] (ao aaz)
theorem TS : bE 150 afp := bF TR
def rG (k r : Int) : Int := bif decide (k < 0) then (if (if r < i64.wrap (k + r) then r else i64.wrap (k + r)) > 0 then if r < i64.wrap (k + r) then r else i64.wrap (k + r) else 0) else (if (if r < k then r else k) > 0 then if r < k then r else k else 0)
def aaA : List AV -> LHp -> Tq
 | [.d zI k, .d zI r], [] => .leaf (.ret [I (rG k r)]) []
 | _, _ => .no
theorem TT : bE 256 (ao aaA) := by
 have h2 : bE 256 (au Ei f256 4 []) := FX
 refine aO fun args hs ae aF h' => ?_
 unfold aaA at h'
 split at h'
 ·rename_i k r
  refine h2.okC ((aas k r).trans (Eq.trans ?_ h'))
  unfold rG
  simp only [Tq.run]
  cases decide (k < 0) <;> rfl
 ·cases h'
noncomputable def kx : Env := afk.add 256 (ao aaA)
theorem EA : kx.Good := I5.add TT
def rj (xs st en : ag) (l : ag) (i : Int) (o : ag) : LSt := { fr := aw 7 [(1, .d (.slice af) xs), (5, .d (.slice af) st), (6, .d (.slice af) en), (8, AV.os 0 0), (41, .d (.slice af) l), (42, I (Int.ofNat l.length)), (43, I i)], hp := [(0, .arr 3 af 0 false o)], nx := 1 }
theorem TU (op nm : aj) (ins : List (aj)) (out : aj) (aa : bk) (vs : cg) (xs : ag) : aC kx f219 7 [(6, [1, 5, 6, 8, 41, 42, 43])] [gu (op, nm, ins, out, aa, ()) vs, .d (.slice af) xs] [] ah = bif aD aa then bif aD aa then bif decide (0 <= Int.ofNat (ai aa ua []).length /\ Int.ofNat (ai aa ua []).length <= 2147483648) then bif aD aa then bif decide ((jy (Int.ofNat (ai aa ua []).length).toNat).length <= 2147483648) then bif decide ((ai aa jP (jy (Int.ofNat (ai aa ua []).length).toNat)).length <= 2147483648) then bif fD (Int.ofNat xs.length) (ai aa jP (jy (Int.ofNat (ai aa ua []).length).toNat)) [] then bif Int.ofNat (ai aa ua []).length == Int.ofNat (ai aa [101, 110, 100, 115] []).length then bif !Int.ofNat (ai aa ua []).length == Int.ofNat (me (ai aa jP (jy (Int.ofNat (ai aa ua []).length).toNat)) (Int.ofNat xs.length)).length then aV else bif decide (xs.length <= 2147483648) then (hlp kx ir) Ew _ (rj xs (ai aa ua []) (ai aa [101, 110, 100, 115] []) (me (ai aa jP (jy (Int.ofNat (ai aa ua []).length).toNat)) (Int.ofNat xs.length)) 0 xs) (aW 0 (bt kx ir [6] (hlp kx ir) (cR (cR (cR (cR (cR (cR Nw)))))) (bA prog 0 f219.results.toList ah))) else none else aV else aV else none else none else none else none else none else none := (bI [6] ir rfl).trans (by obtain ⟨hl, h⟩ := bw kx ir; rw [h]; kernel_rfl)
theorem NJ (xs st en l : ag) (i : Int) (o : ag) (n : Nat) {R : Type} (k : AEx -> LSt -> Option R) : lp kx ir Ew (n + 1) (rj xs st en l i o) k = bif decide (i < Int.ofNat l.length) then (idx l i).bind fun v1 => (idx en i).bind fun v2 => (idx xs v1).bind fun v3 => (idx st i).bind fun v4 => (idx xs v1).bind fun v5 => (idx o v1).bind fun v6 => (fJ o (Int.toNat v1) (i64.wrap (rG v2 v3 - rG v4 v5))).bind fun v7 => (idx v7 v1).bind fun v8 => (v7[Int.toNat v1]?).bind fun v9 => bif !decide (v9 > 0) then k (AEx.panic 131 4) { fr := aw 7 [(1, AV.d (af).slice xs), (5, AV.d (af).slice st), (6, AV.d (af).slice en), (8, AV.os 0 0), (9, I i), (10, I v1), (41, AV.d (af).slice l), (42, I (Int.ofNat l.length)), (43, I i), (44, B true), (45, I i), (46, AV.ip (af) v1), (47, I v1), (48, AV.os 0 0), (49, I v1), (50, AV.d (af).slice en), (51, I i), (52, AV.ip (af) v2), (53, I v2), (54, AV.d (af).slice xs), (55, I v1), (56, AV.ip (af) v3), (57, I v3), (58, I (rG v2 v3)), (59, AV.d (af).slice st), (60, I i), (61, AV.ip (af) v4), (62, I v4), (63, AV.d (af).slice xs), (64, I v1), (65, AV.ip (af) v5), (66, I v5), (67, I (rG v4 v5)), (68, I (i64.wrap (rG v2 v3 - rG v4 v5))), (69, AV.oe 0 0 (Int.toNat v1)), (70, AV.os 0 0), (71, I v1), (72, AV.oe 0 0 (Int.toNat v1)), (73, I v9), (74, B (decide (v9 > 0)))], hp := [(0, al.arr 3 (af) 0 false v7), (0, al.arr 3 (af) 0 false o)], nx := 1 } else lp kx ir Ew n (rj xs st en l (i64.wrap (i + 1)) v7) k else k (AEx.exit 0) { fr := aw 7 [(1, AV.d (af).slice xs), (5, AV.d (af).slice st), (6, AV.d (af).slice en), (8, AV.os 0 0), (41, AV.d (af).slice l), (42, I (Int.ofNat l.length)), (43, I i), (44, B false)], hp := [(0, al.arr 3 (af) 0 false o)], nx := 1 } := by kernel_rfl
noncomputable def fj : Env := ((Ei.add 149 (ao IY)).add 59 (ao uq)).add 107 (ao Cb)
theorem I7 : fj.Good := ((k9.add sh).add jm).add nt
theorem aaB (op nm : aj) (ins : List (aj)) (out : aj) (aa : bk) (vs : cg) (xs : ag) : aC fj f218 6 [(4, [1, 5, 6, 21, 22, 23]), (8, [1, 5, 6, 21, 22, 23, 35, 36, 37])] [gu (op, nm, ins, out, aa, ()) vs, .d (.slice af) xs] [] ah = bif decide (aa.length <= 9223372036854775807) then bif vI (aX aa fR 0) (Int.ofNat xs.length) then bif decide (xs.length <= 2147483648) then (if (0 : Int) <= 1 /\ 1 <= Int.ofNat vs.length /\ Int.ofNat vs.length <= Int.ofNat vs.length then some (List.drop 1 (List.take (Int.ofNat vs.length).toNat vs)) else none).bind fun v3 => (hlp fj bY) rF _ { fr := aw 6 [(1, AV.d (af).slice xs), (5, I (lD (aX aa fR 0) (Int.ofNat xs.length))), (6, AV.os 0 0), (21, AV.d Y3.slice v3), (22, I (Int.ofNat v3.length)), (23, I 0)], hp := [(0, al.arr 3 (af) 0 false xs)], nx := 1 } (aW 0 (bt fj bY [4, 8] (hlp fj bY) (cR (cR (cR (cR w7)))) (bA prog 0 f218.results.toList ah))) else none else aV else none := (bI [4, 8] bY rfl).trans (by obtain ⟨hl, h⟩ := bw fj bY; rw [h]; kernel_rfl)
noncomputable def pJ : Env := (sa.add 215 TP).add 107 (ao Cb)
theorem I8 : pJ.Good := (dR.add yP).add nt
theorem aaC (op nm : aj) (ins : List (aj)) (out : aj) (aa : bk) (vs : cg) (xs : ag) : aC pJ f221 6 [(4, [1, 5, 6, 17, 18])] [gu (op, nm, ins, out, aa, ()) vs, .d (.slice af) xs] [] ah = bif aD aa then bif cy (i64.wrap (Int.ofNat (2 * xs.length))) 0 65536 (ai aa cW []) then bif decide (xs.length <= 2147483648) then (hlp pJ iu) Ex _ { fr := aw 6 [(1, AV.d (af).slice xs), (5, AV.d (af).slice (ai aa cW [])), (6, AV.os 0 0), (17, I (Int.ofNat xs.length)), (18, I 0)], hp := [(0, al.arr 3 (af) 0 false xs)], nx := 1 } (aW 0 (bt pJ iu [4] (hlp pJ iu) (cR (cR (cR (cR Nz)))) (bA prog 0 f221.results.toList ah))) else none else aV else none := (bI [4] iu rfl).trans (by obtain ⟨hl, h⟩ := bw pJ iu; rw [h]; kernel_rfl)
noncomputable def afq : Env := sa.add 59 (ao uq)
theorem I9 : afq.Good := dR.add jm
theorem aaD (op nm : aj) (ins : List (aj)) (out : aj) (aa : bk) (vs : cg) (xs : ag) : aC afq f224 6 [] [gu (op, nm, ins, out, aa, ()) vs, .d (.slice af) xs] [] ah = bif decide (aa.length <= 9223372036854775807) then bif decide (i64.wrap (0 - Int.ofNat xs.length) <= aX aa fR 1) then bif !decide (aX aa fR 1 <= Int.ofNat xs.length) then aV else bif decide (aX aa fR 1 < 0) then (if (0 : Int) <= 0 /\ 0 <= i64.wrap (aX aa fR 1 + Int.ofNat xs.length) /\ i64.wrap (aX aa fR 1 + Int.ofNat xs.length) <= Int.ofNat xs.length then some (List.drop 0 (List.take (i64.wrap (aX aa fR 1 + Int.ofNat xs.length)).toNat xs)) else none).bind fun v4 => bif decide (v4.length <= 9223372036854775807) then (if 0 <= i64.wrap (aX aa fR 1 + Int.ofNat xs.length) /\ i64.wrap (aX aa fR 1 + Int.ofNat xs.length) <= Int.ofNat xs.length /\ Int.ofNat xs.length <= Int.ofNat xs.length then some (List.drop (i64.wrap (aX aa fR 1 + Int.ofNat xs.length)).toNat (List.take (Int.ofNat xs.length).toNat xs)) else none).bind fun v6 => bif decide (v6.length <= 9223372036854775807) then some (aq.ret [AV.os 0 0], [(0, al.arr 3 (af) 0 false [aR v4, aR v6])]) else none else none else (if (0 : Int) <= 0 /\ 0 <= aX aa fR 1 /\ aX aa fR 1 <= Int.ofNat xs.length then some (List.drop 0 (List.take (aX aa fR 1).toNat xs)) else none).bind fun v4 => bif decide (v4.length <= 9223372036854775807) then (if 0 <= aX aa fR 1 /\ aX aa fR 1 <= Int.ofNat xs.length /\ Int.ofNat xs.length <= Int.ofNat xs.length then some (List.drop (aX aa fR 1).toNat (List.take (Int.ofNat xs.length).toNat xs)) else none).bind fun v6 => bif decide (v6.length <= 9223372036854775807) then some (aq.ret [AV.os 0 0], [(0, al.arr 3 (af) 0 false [aR v4, aR v6])]) else none else none else aV else none := by kernel_rfl
def aaE : List AV -> LHp -> Tq
 | [.d zI m], [] => .br (decide (0 <= m /\ m <= 2147483648)) (.leaf (.ret [.os 0 0]) [(0, .arr 2 af 0 false (jy m.toNat))]) .no
 | _, _ => .no
theorem GJ (T : Nat) (xs : ag) : (gW T xs).bind (fun p => bif uI p.1 then (bif cF p.2.length p.2 then ah (.ret [.os p.2.length 0]) (p.2 ++ [(p.2.length, .arr T af 0 false [])]) else none) else ah p.1 p.2) = some (.ret [.os 0 0], [(0, .arr T af 0 false xs)]) := by cases xs <;> rfl
theorem TV : bE 210 (ao aaE) := by
 have h0 := bS (d := 4) (l := [(3, [3, 5, 6])]) jR func210 call210
 have h1 : bE 210 (Ns 2 af (au j9 f210 4 [(3, [3, 5, 6])])) := uJ h0
 refine aO fun args hs ae aF h' => ?_
 unfold aaE at h'
 split at h'
 ·rename_i m
  obtain ⟨hb, h2⟩ := Tq.br_no h'
  obtain ⟨h3, h4⟩ := aZ hb
  cases h2
  obtain ⟨N, rfl⟩ := Int.eq_ofNat_of_zero_le h3
  refine h1.ok _ _ _ _ ?_
  simp only [Ns]
  rw [h0.eq]
  have e : (au j9 f210 4 [(3, [3, 5, 6])]).run [I (N : Int)] [] (fun a h => some (a, h)) = gW 2 (jy N) := (ME _).trans ((Wq _).trans (Nh (Int.ofNat_le.1 h4)))
  rw [e]
  exact GJ _ _
 ·cases h'
theorem NK {k r : Int} (h0 : 0 <= r) (h1 : r <= 4294967296) (h : vI k r = true) : 0 <= lD k r /\ lD k r < r := by
 unfold vI at h
 rw [bg] at h
 have h2 := aZ h.1
 have h3 := aZ h.2
 unfold lD
 rw [aJ (by omega) (by omega)] at h2
 cases hk : decide (k < 0) with
 | true =>
  have := aZ hk
  rw [ak, aJ (by omega) (by omega)]
  omega
 | false =>
  have := rq hk
  rw [ax]
  omega
theorem aK {xs : ag} {i : Nat} (h : i < xs.length) : idx xs ((i : Nat) : Int) = some (xs.getD i 0) := by
 unfold idx
 rw [if_pos (by omega), Int.toNat_natCast, List.getD_eq_getElem?_getD, List.getElem?_eq_getElem h]
 rfl
theorem yQ {xs : ag} {k : Int} (h0 : 0 <= k) (h1 : k < (xs.length : Int)) : idx xs k = some (xs.getD k.toNat 0) := by
 obtain ⟨n, rfl⟩ := Int.eq_ofNat_of_zero_le h0
 exact aK (by omega)
def zG (xs st en : ag) (i : Nat) (k : Int) : Int := i64.wrap (rG (en.getD i 0) (xs.getD k.toNat 0) - rG (st.getD i 0) (xs.getD k.toNat 0))
def slD (xs st en : ag) : Nat -> List Int -> List Int -> Option (ag)
 | _, [], o => some o
 | i, k :: l, o => bif decide (zG xs st en i k > 0) then slD xs st en (i + 1) l (o.set k.toNat (zG xs st en i k)) else none
def slN (xs st en : ag) (a : Nat × ag) (k : Int) : Nx (Nat × ag) (aq × LHp) := bif decide (zG xs st en a.1 k > 0) then .go (a.1 + 1, a.2.set k.toNat (zG xs st en a.1 k)) else .stop (some (.panic 131 4, []))
def yR (T : Nat) (o : Option (ag)) : Option (aq × LHp) := match o with
 | some xs => some (.ret [.os 0 0], [(0, .arr T af 0 false xs)])
 | none => some (.panic 131 4, [])
theorem GK (xs st en : ag) : ∀ (l : ag) (i : Nat) (o : ag), cm (slN xs st en) (fun a => yR 3 (some a.2)) l (i, o) = yR 3 (slD xs st en i l o)
 | [], i, o => rfl
 | k :: l, i, o => by
  have e : slN xs st en (i, o) k = bif decide (zG xs st en i k > 0) then .go (i + 1, o.set k.toNat (zG xs st en i k)) else .stop (some (.panic 131 4, [])) := rfl
  rw [cm, e, slD]
  cases decide (zG xs st en i k > 0) with
  | false => rfl
  | true => exact GK xs st en l (i + 1) _
noncomputable def KSl : AEx -> LSt -> Option (aq × LHp) := (aW 0 (bt kx ir [6] (hlp kx ir) (cR (cR (cR (cR (cR (cR Nw)))))) (bA prog 0 f219.results.toList ah)))
theorem aaF {xs st en l : ag} (hx : xs.length <= 2147483648) (h1 : st.length = l.length) (h2 : en.length = l.length) (hl : l.length <= 2147483648) (hk : ∀ k ∈ l, 0 <= k /\ k < (xs.length : Int)) : lp kx ir Ew fu (rj xs st en l 0 xs) KSl = yR 3 (slD xs st en 0 l xs) := by
 have hm : maxLen = 9223372036854775807 := by decide
 refine (dD (xs := l) (T := fun n s => lp kx ir Ew n s KSl) (st := fun (i : Int) (a : Nat × ag) => rj xs st en l i a.2) (f := slN xs st en) (fin := fun (a : Nat × ag) => yR 3 (some a.2)) (fun (i : Nat) (a : Nat × ag) => a.1 = i /\ a.2.length = xs.length) (by omega) ?_ ?_ (a := (0, xs)) ⟨rfl, rfl⟩).trans (GK xs st en l 0 xs)
 ·rintro i ⟨i', o⟩ k n ⟨rfl, hI⟩ fq gx gi hw hd
  have hI : o.length = xs.length := hI
  have fq : i' < l.length := fq
  obtain ⟨k0, k1⟩ := hk k (List.mem_of_getElem? gx)
  have hkn : k.toNat < o.length := by omega
  have gs : fJ o k.toNat (zG xs st en i' k) = some (o.set k.toNat (zG xs st en i' k)) := by unfold fJ; rw [show Nat.blt k.toNat o.length = true from Nat.ble_eq_true_of_le hkn]; rfl
  have gl : (o.set k.toNat (zG xs st en i' k)).length = xs.length := by rw [List.length_set]; exact hI
  have g9 : (o.set k.toNat (zG xs st en i' k))[k.toNat]? = some (zG xs st en i' k) := by rw [List.getElem?_set_self hkn]
  have g8 : idx (o.set k.toNat (zG xs st en i' k)) k = some (zG xs st en i' k) := by unfold idx; rw [if_pos (by omega), g9]
  have e : slN xs st en (i', o) k = bif decide (zG xs st en i' k > 0) then .go (i' + 1, o.set k.toNat (zG xs st en i' k)) else .stop (some (.panic 131 4, [])) := rfl
  have ew : i64.wrap (rG (en.getD i' 0) (xs.getD k.toNat 0) - rG (st.getD i' 0) (xs.getD k.toNat 0)) = zG xs st en i' k := rfl
  have ma : (i' : Int) < (l.length : Int) := by omega
  have ge : idx en (i' : Int) = some (en.getD i' 0) := yQ (k := (i' : Int)) (by omega) (by omega)
  have gt : idx st (i' : Int) = some (st.getD i' 0) := yQ (k := (i' : Int)) (by omega) (by omega)
  have go : idx o k = some (o.getD k.toNat 0) := yQ k0 (by omega)
  have hs := NJ xs st en l (i' : Int) o n KSl
  rw [hd, ak, gi, aA, ge, aA, yQ k0 k1, aA, gt, aA, aA, go, aA, ew, gs, aA, g8, aA, g9, aA, hw] at hs
  cases hq : decide (zG xs st en i' k > 0) with
  | true =>
   rw [hq, Bool.not_true, ax] at hs
   rw [hq, ak] at e
   exact .inl ⟨_, e, ⟨rfl, gl⟩, hs⟩
  | false =>
   rw [hq, ax] at e
   rw [hq, Bool.not_false, ak] at hs
   exact .inr ⟨_, e, hs.trans (by kernel_rfl)⟩
 ·rintro ⟨i', o⟩ n ⟨hI, _⟩ hd
  show lp _ _ _ (n + 1) (rj xs st en l (l.length : Int) o) _ = _
  rw [NJ, hd, ax]
  show _ = _
  kernel_rfl
theorem afu (xs st en l : ag) : hlp kx ir Ew (aq × LHp) (rj xs st en l 0 xs) KSl = lp kx ir Ew fu (rj xs st en l 0 xs) KSl := rfl
def cq : aj := ua
def pK : aj := [101, 110, 100, 115]
def slA (aa : bk) : ag := ai aa dN (jy (ai aa cq []).length)
def TW (aa : bk) (xs : ag) : Option (ag) := bif fD (Int.ofNat xs.length) (slA aa) [] && (Int.ofNat (ai aa cq []).length == Int.ofNat (ai aa pK []).length && Int.ofNat (ai aa cq []).length == Int.ofNat (slA aa).length) then slD xs (ai aa cq []) (ai aa pK []) 0 (me (slA aa) (Int.ofNat xs.length)) xs else none
def uK (o : Option (ag)) : Tq := .br o.isSome (dat (.slice af) (o.getD [])) (pnc 131 4)
def TX (k : Bool) (l : ag) : Tq := .br k (dat (.slice af) l) (pnc 131 4)
theorem jY (T : Nat) (o : Option (ag)) : dj (.slice af) (yR T o) = (uK o).run ah := by cases o <;> rfl
def afv (aa : bk) (xs : ag) : Bool := (TW aa xs).isSome
def afw (aa : bk) (xs : ag) : ag := (TW aa xs).getD []
def aaG : List AV -> LHp -> Tq
 | [.d Y6 ((_, _, _, _, aa, _), _, _), .d zS xs], [] => .br (aD aa) (.br (decide (xs.length <= 2147483648)) (TX (afv aa xs) (afw aa xs)) .no) .no
 | _, _ => .no
theorem uL {r : Int} : ∀ {l o : ag}, fD r l o = true -> ∀ a ∈ l, vI a r = true
 | [], _, _, _, h => by cases h
 | a :: l, o, h, b, hb => by
  rw [fD, bg, bg] at h
  rcases List.mem_cons.1 hb with rfl | hb
  ·exact h.1
  ·exact uL h.2.2 b hb
theorem TY : bE 219 (ao aaG) := by
 have h1 := bS (d := 7) (l := [(6, [1, 5, 6, 8, 41, 42, 43])]) EA func219 call219
 refine aO fun args hs ae aF h' => ?_
 unfold aaG at h'
 split at h'
 ·rename_i op nm ins out aa _ vs _ xs
  obtain ⟨hs, h2⟩ := Tq.br_no h'
  obtain ⟨hb, h3⟩ := Tq.br_no h2
  have hb := aZ hb
  refine h1.okO (.slice af) (Eq.trans ?_ (show (uK (TW aa xs)).run ah = some (ae, aF) from h3))
  refine Eq.trans (congrArg (dj _) (TU op nm ins out aa vs xs)) ?_
  have hS := jW hs cq (ot := []) (by decide)
  have hA := jW hs dN (ot := jy (ai aa cq []).length) (by rw [nu]; exact hS)
  rw [← jY 3]
  unfold TW slA
  change dj _ (bif aD aa then (bif aD aa then (bif decide (0 <= Int.ofNat (ai aa cq []).length /\ Int.ofNat (ai aa cq []).length <= 2147483648) then (bif aD aa then (bif decide ((jy (ai aa cq []).length).length <= 2147483648) then (bif decide ((ai aa dN (jy (ai aa cq []).length)).length <= 2147483648) then (bif fD (Int.ofNat xs.length) (ai aa dN (jy (ai aa cq []).length)) [] then (bif Int.ofNat (ai aa cq []).length == Int.ofNat (ai aa pK []).length then (bif !(Int.ofNat (ai aa cq []).length == Int.ofNat (me (ai aa dN (jy (ai aa cq []).length)) (Int.ofNat xs.length)).length) then _ else (bif decide (xs.length <= 2147483648) then _ else _)) else _) else _) else _) else _) else _) else _) else _) else _) = _
  rw [hs, ak, ak, aE (show 0 <= Int.ofNat (ai aa cq []).length /\ Int.ofNat (ai aa cq []).length <= 2147483648 from ⟨by simp only [aT]; omega, by simp only [aT]; omega⟩), ak, ak, aE (show (jy (ai aa cq []).length).length <= 2147483648 by rw [nu]; exact hS), ak, aE hA, ak, aE hb, ak, iG]
  cases hq : fD (Int.ofNat xs.length) (ai aa dN (jy (ai aa cq []).length)) [] with
  | false => rfl
  | true =>
   cases Kc : Int.ofNat (ai aa cq []).length == Int.ofNat (ai aa pK []).length with
   | false => rfl
   | true =>
    cases hq3 : Int.ofNat (ai aa cq []).length == Int.ofNat (ai aa dN (jy (ai aa cq []).length)).length with
    | false => rfl
    | true =>
     have e2 := eq_of_beq Kc
     have e3 := eq_of_beq hq3
     simp only [aT] at e2 e3
     rw [ak, ak, Bool.not_true, ax]
     have h8 : ∀ k ∈ me (ai aa dN (jy (ai aa cq []).length)) (Int.ofNat xs.length), 0 <= k /\ k < (xs.length : Int) := by
      intro k hk
      obtain ⟨a, ha, rfl⟩ := List.mem_map.1 hk
      have h5 := NK (r := Int.ofNat xs.length) (by simp only [aT]; omega) (by simp only [aT]; omega) (uL hq a ha)
      simpa using h5
     have h9 := (afu xs (ai aa cq []) (ai aa pK []) (me (ai aa dN (jy (ai aa cq []).length)) (Int.ofNat xs.length))).trans (aaF hb (by rw [iG]; omega) (by rw [iG]; omega) (by rw [iG]; exact hA) h8)
     exact congrArg (dj (.slice af)) h9
 ·cases h'
noncomputable def afx : FnE := cU [(Y6), .slice af] (ao aaG)
theorem TZ : bE 219 afx := bF TY
def EB (xs ps : ag) (N : Int) (i : Int) (o : ag) : LSt := { fr := aw 6 [(1, .d (.slice af) xs), (5, .d (.slice af) ps), (6, AV.os 0 0), (17, I N), (18, I i)], hp := [(0, .arr 3 af 0 false o)], nx := 1 }
theorem Wt (xs ps : ag) (N : Int) (i : Int) (o : ag) (n : Nat) {R : Type} (k : AEx -> LSt -> Option R) : lp pJ iu Ex (n + 1) (EB xs ps N i o) k = bif decide (i < N) then (idx o i).bind fun v1 => (o[i.toNat]?).bind fun v2 => (idx ps i).bind fun v3 => (idx ps (i64.wrap (Int.ofNat xs.length + i))).bind fun v4 => (idx o i).bind fun v5 => (fJ o i.toNat (i64.wrap (v2 + i64.wrap (v3 + v4)))).bind fun v6 => lp pJ iu Ex n (EB xs ps N (i64.wrap (i + 1)) v6) k else k (AEx.exit 0) { fr := aw 6 [(1, AV.d (af).slice xs), (5, AV.d (af).slice ps), (6, AV.os 0 0), (17, I N), (18, I i), (19, B false)], hp := [(0, al.arr 3 (af) 0 false o)], nx := 1 } := by kernel_rfl
def pL (xs : ag) (a : Int) (vs : cg) (i : Int) (o : ag) : LSt := { fr := aw 6 [(1, .d (.slice af) xs), (5, I a), (6, AV.os 0 0), (21, .d (.slice (Y3)) vs), (22, I (Int.ofNat vs.length)), (23, I i)], hp := [(0, .arr 3 af 0 false o)], nx := 1 }
theorem Wu (xs : ag) (a : Int) (vs : cg) (i : Int) (o : ag) (n : Nat) {R : Type} (k : AEx -> LSt -> Option R) : lp fj bY rF (n + 1) (pL xs a vs i o) k = bif decide (i < Int.ofNat vs.length) then (idx vs i).bind fun v1 => bif !Int.ofNat (List.length v1.2.2.1) == Int.ofNat xs.length then k (AEx.panic 131 4) { fr := aw 6 [(1, AV.d (af).slice xs), (5, I a), (6, AV.os 0 0), (8, AV.op 1 [] 0), (21, AV.d Y3.slice vs), (22, I (Int.ofNat vs.length)), (23, I i), (24, B true), (25, AV.ip Y3 v1), (26, AV.d Y3 v1), (27, AV.op 1 [2] 2), (28, AV.d (af).slice v1.2.2.1), (29, I (Int.ofNat (List.length v1.2.2.1))), (30, AV.d (af).slice xs), (31, I (Int.ofNat xs.length)), (32, B (Int.ofNat (List.length v1.2.2.1) == Int.ofNat xs.length))], hp := [(1, al.box (AV.d Y3 v1)), (1, al.box ((AV.d Ty.str []).pr ((I 0).pr (AV.nils.pr (AV.d Ty.unit PUnit.unit))))), (0, al.arr 3 (af) 0 false o)], nx := 2 } else (hlp fj bY) Cc _ { fr := aw 6 [(1, AV.d (af).slice xs), (5, I a), (6, AV.os 0 0), (21, AV.d Y3.slice vs), (22, I (Int.ofNat vs.length)), (23, I i), (35, AV.d (af).slice v1.2.2.1), (36, I (Int.ofNat (List.length v1.2.2.1))), (37, I 0)], hp := [(0, al.arr 3 (af) 0 false o)], nx := 1 } (aW 2 (aW 1 (bt fj bY [4, 8] (hlp fj bY) (cR (cR (cR (cL (cL (cR (cL (cR (cR (cR w7)))))))))) (rB fj bY [4, 8] (hlp fj bY) rF n k)))) else k (AEx.exit 0) { fr := aw 6 [(1, AV.d (af).slice xs), (5, I a), (6, AV.os 0 0), (21, AV.d Y3.slice vs), (22, I (Int.ofNat vs.length)), (23, I i), (24, B false)], hp := [(0, al.arr 3 (af) 0 false o)], nx := 1 } := by
 rw [qx [4, 8]]
 obtain ⟨hl, h⟩ := bw fj bY
 rw [h]
 kernel_rfl
def Cf (xs : ag) (a : Int) (vs : cg) (j : Int) (ds : ag) (i : Int) (o : ag) : LSt := { fr := aw 6 [(1, .d (.slice af) xs), (5, I a), (6, AV.os 0 0), (21, .d (.slice (Y3)) vs), (22, I (Int.ofNat vs.length)), (23, I j), (35, .d (.slice af) ds), (36, I (Int.ofNat ds.length)), (37, I i)], hp := [(0, .arr 3 af 0 false o)], nx := 1 }
theorem Wv (xs : ag) (a : Int) (vs : cg) (j : Int) (ds : ag) (i : Int) (o : ag) (n : Nat) {R : Type} (k : AEx -> LSt -> Option R) : lp fj bY Cc (n + 1) (Cf xs a vs j ds i o) k = bif decide (i < Int.ofNat ds.length) then (idx ds i).bind fun v1 => bif i == a then (idx o i).bind fun v3 => (o[i.toNat]?).bind fun v4 => (idx o i).bind fun v5 => (fJ o i.toNat (i64.wrap (v4 + v1))).bind fun v6 => lp fj bY Cc n (Cf xs a vs j ds (i64.wrap (i + 1)) v6) k else (idx xs i).bind fun v3 => bif !v1 == v3 then k (AEx.panic 131 4) { fr := aw 6 [(1, AV.d (af).slice xs), (5, I a), (6, AV.os 0 0), (9, I i), (10, I v1), (21, AV.d Y3.slice vs), (22, I (Int.ofNat vs.length)), (23, I j), (35, AV.d (af).slice ds), (36, I (Int.ofNat ds.length)), (37, I i), (38, B true), (39, I i), (40, AV.ip (af) v1), (41, I v1), (42, I i), (43, I a), (44, B false), (52, I v1), (53, AV.d (af).slice xs), (54, I i), (55, AV.ip (af) v3), (56, I v3), (57, B (v1 == v3))], hp := [(0, al.arr 3 (af) 0 false o)], nx := 1 } else lp fj bY Cc n (Cf xs a vs j ds (i64.wrap (i + 1)) o) k else k (AEx.exit 2) { fr := aw 6 [(1, AV.d (af).slice xs), (5, I a), (6, AV.os 0 0), (21, AV.d Y3.slice vs), (22, I (Int.ofNat vs.length)), (23, I j), (35, AV.d (af).slice ds), (36, I (Int.ofNat ds.length)), (37, I i), (38, B false)], hp := [(0, al.arr 3 (af) 0 false o)], nx := 1 } := by kernel_rfl
abbrev Cg := ag × Int × Int
def Ch (o : ag) (a p d : Int) : Nx Cg (aq × LHp) := bif decide (d >= 1) then (bif decide (d <= 65536) then (bif decide (i64.wrap (p * d) <= 65536) then .go (o ++ [d], a, i64.wrap (p * d)) else .stop (some (.panic 131 4, []))) else .stop (some (.panic 131 4, []))) else .stop (some (.panic 131 4, []))
def EC (xs : ag) (s : Cg) (x : Int) : Nx Cg (aq × LHp) := bif x == -1 && decide (s.2.1 < 0) then Ch s.1 (s.1.length : Int) s.2.2 1 else bif x == 0 && decide ((s.1.length : Int) < Int.ofNat xs.length) then Ch s.1 s.2.1 s.2.2 (xs.getD s.1.length 0) else Ch s.1 s.2.1 s.2.2 x
def w8 (xs : ag) (s : Cg) : Option (aq × LHp) := bif decide (s.2.1 >= 0) then (bif (aR xs).tmod s.2.2 == 0 then gW 3 (s.1.set s.2.1.toNat (i64.wrap ((aR xs).tdiv s.2.2))) else some (.panic 131 4, [])) else bif aR xs == s.2.2 then gW 3 s.1 else some (.panic 131 4, [])
def ED (xs l : ag) (i : Int) (s : Cg) : LSt := match s.1 with
 | [] => ri xs s.2.1 s.2.2 l i
 | v :: o => gN (v :: o) xs s.2.1 s.2.2 l i
def RsI (i : Nat) (s : Cg) : Prop := s.1.length = i /\ s.2.1 < (i : Int) /\ 1 <= s.2.2 /\ s.2.2 <= 65536
theorem T0 {o : ag} {a p d : Int} {i : Nat} {s : Cg} (h1 : o.length = i) (h2 : a < (i : Int) + 1) (h3 : 1 <= p) (h4 : p <= 65536) (h : Ch o a p d = .go s) : RsI (i + 1) s := by
 unfold Ch at h
 cases h5 : decide (d >= 1) with
 | false => rw [h5] at h; cases h
 | true =>
  cases h6 : decide (d <= 65536) with
  | false => rw [h5, h6] at h; cases h
  | true =>
   cases h7 : decide (i64.wrap (p * d) <= 65536) with
   | false => rw [h5, h6, h7] at h; cases h
   | true =>
    rw [h5, h6, h7] at h
    cases h
    have k5 := aZ h5
    have k6 := aZ h6
    have k7 := aZ h7
    have b1 : p * d <= 65536 * 65536 := Int.mul_le_mul h4 k6 (by omega) (by omega)
    have b2 : 1 * 1 <= p * d := Int.mul_le_mul h3 k5 (by omega) (by omega)
    have w : i64.wrap (p * d) = p * d := aJ (by omega) (by omega)
    refine ⟨by rw [List.length_append, List.length_singleton, h1], by push_cast; omega, ?_, k7⟩
    show 1 <= i64.wrap (p * d)
    rw [w]; omega
def rsT {X : Type} (P : X) (T : Cg -> X) (o : ag) (a p d : Int) : X := bif decide (d >= 1) then (bif !decide (d <= 65536) then P else bif !decide (i64.wrap (p * d) <= 65536) then P else T (o ++ [d], a, i64.wrap (p * d))) else P
theorem w9 {o : ag} {a p d : Int} {i : Nat} (h1 : o.length = i) (h2 : a < (i : Int) + 1) (h3 : 1 <= p) (h4 : p <= 65536) {x : Nx Cg (aq × LHp)} {s : Option (aq × LHp)} {T : Cg -> Option (aq × LHp)} (hx : x = Ch o a p d) (hs : s = rsT (some (.panic 131 4, [])) T o a p d) :
  (∃ a', x = .go a' /\ RsI (i + 1) a' /\ s = T a') \/ (∃ r, x = .stop r /\ s = r) := by
 cases hq : Ch o a p d with
 | go a' =>
  refine .inl ⟨a', hx.trans hq, T0 h1 h2 h3 h4 hq, hs.trans ?_⟩
  unfold Ch at hq
  unfold rsT
  cases h5 : decide (d >= 1) with
  | false => rw [h5] at hq; cases hq
  | true =>
   cases h6 : decide (d <= 65536) with
   | false => rw [h5, h6] at hq; cases hq
   | true =>
    cases h7 : decide (i64.wrap (p * d) <= 65536) with
    | false => rw [h5, h6, h7] at hq; cases hq
    | true => rw [h5, h6, h7] at hq; cases hq; rfl
 | stop r =>
  refine .inr ⟨r, hx.trans hq, hs.trans ?_⟩
  unfold Ch at hq
  unfold rsT
  cases h5 : decide (d >= 1) with
  | false => rw [h5] at hq; cases hq; rfl
  | true =>
   cases h6 : decide (d <= 65536) with
   | false => rw [h5, h6] at hq; cases hq; rfl
   | true =>
    cases h7 : decide (i64.wrap (p * d) <= 65536) with
    | false => rw [h5, h6, h7] at hq; cases hq; rfl
    | true => rw [h5, h6, h7] at hq; cases hq
theorem Ja {xs l : ag} {a p : Int} {i : Nat} (hI : List.length ([] : ag) = i) (h2 : a < (i : Int)) (h3 : 1 <= p) (h4 : p <= 65536) (hl : l.length <= 2147483648) {x : Int} {n : Nat} (hi : i < l.length) (gi : idx l (i : Int) = some x) (hw : i64.wrap ((i : Int) + 1) = ((i + 1 : Nat) : Int)) (hd : decide ((i : Int) < Int.ofNat l.length) = true) :
    (∃ a', EC xs (([] : ag), a, p) x = .go a' /\ RsI (i + 1) a' /\ lp dZ bR fU (n + 1) (ri xs a p l (i : Int)) oN = lp dZ bR fU n (ED xs l ((i + 1 : Nat) : Int) a') oN) \/ (∃ r, EC xs (([] : ag), a, p) x = .stop r /\ lp dZ bR fU (n + 1) (ri xs a p l (i : Int)) oN = r) := by
  have hs := NH xs a p l (i : Int) n
  have ha : ∀ y : Int, app ([]) [y] = some (([]) ++ [y]) := fun y => fB (by rw [hI, List.length_singleton, show lim = 4294967296 from rfl]; omega)
  have hL : ((List.length ([] : ag) : Nat) : Int) = (i : Int) := by rw [hI]
  have eN : EC xs (([] : ag), a, p) x = bif x == -1 && decide (a < 0) then Ch ([]) (i : Int) p 1 else bif x == 0 && decide ((i : Int) < Int.ofNat xs.length) then Ch ([]) a p (xs.getD i 0) else Ch ([]) a p x := by
    unfold EC
    simp only [hL, hI]
  rw [hd, ak, gi, aA, hw] at hs
  simp only [ha, aA] at hs
  have ma : a < (i : Int) + 1 := by omega
  have T1 : (fun s => lp dZ bR fU n (ED xs l ((i + 1 : Nat) : Int) s) oN) = fun s => lp dZ bR fU n (ED xs l ((i + 1 : Nat) : Int) s) oN := rfl
  cases c1 : x == -1 <;> cases c2 : decide (a < 0) <;> cases c3 : x == 0 <;> cases c4 : decide ((i : Int) < Int.ofNat xs.length) <;>
    (rw [c1, c2, c3, c4] at eN
     rw [c1] at hs
     try rw [c2] at hs
     try rw [c3] at hs
     try rw [c4] at hs
     first
       | exact w9 hI ma h3 h4 eN hs
       | (refine w9 (d := 1) hI (show (i : Int) < (i : Int) + 1 by omega) h3 h4 eN (hs.trans ?_)
          kernel_rfl)
       | (rw [aK (Int.ofNat_lt.1 (aZ c4))] at hs
          exact w9 hI ma h3 h4 eN hs))
theorem Jb {xs l : ag} {a p : Int} {i : Nat} {v : Int} {o : ag} (hI : List.length (v :: o : ag) = i) (h2 : a < (i : Int)) (h3 : 1 <= p) (h4 : p <= 65536) (hl : l.length <= 2147483648) {x : Int} {n : Nat} (hi : i < l.length) (gi : idx l (i : Int) = some x) (hw : i64.wrap ((i : Int) + 1) = ((i + 1 : Nat) : Int)) (hd : decide ((i : Int) < Int.ofNat l.length) = true) :
    (∃ a', EC xs ((v :: o : ag), a, p) x = .go a' /\ RsI (i + 1) a' /\ lp dZ bR fU (n + 1) (gN (v :: o) xs a p l (i : Int)) oN = lp dZ bR fU n (ED xs l ((i + 1 : Nat) : Int) a') oN) \/ (∃ r, EC xs ((v :: o : ag), a, p) x = .stop r /\ lp dZ bR fU (n + 1) (gN (v :: o) xs a p l (i : Int)) oN = r) := by
  have hs := NI v o xs a p l (i : Int) n
  have ha : ∀ y : Int, app (v :: o) [y] = some ((v :: o) ++ [y]) := fun y => fB (by rw [hI, List.length_singleton, show lim = 4294967296 from rfl]; omega)
  have hL : ((List.length (v :: o : ag) : Nat) : Int) = (i : Int) := by rw [hI]
  have eN : EC xs ((v :: o : ag), a, p) x = bif x == -1 && decide (a < 0) then Ch (v :: o) (i : Int) p 1 else bif x == 0 && decide ((i : Int) < Int.ofNat xs.length) then Ch (v :: o) a p (xs.getD i 0) else Ch (v :: o) a p x := by
    unfold EC
    simp only [hL, hI]
  rw [hd, ak, gi, aA, hw] at hs
  simp only [ha, aA] at hs
  have ma : a < (i : Int) + 1 := by omega
  have T1 : (fun s => lp dZ bR fU n (ED xs l ((i + 1 : Nat) : Int) s) oN) = fun s => lp dZ bR fU n (ED xs l ((i + 1 : Nat) : Int) s) oN := rfl
  cases c1 : x == -1 <;> cases c2 : decide (a < 0) <;> cases c3 : x == 0 <;> cases c4 : decide ((i : Int) < Int.ofNat xs.length) <;>
    (rw [c1, c2, c3, c4] at eN
     rw [c1] at hs
     try rw [c2] at hs
     try rw [c3] at hs
     try rw [c4] at hs
     first
       | exact w9 hI ma h3 h4 eN hs
       | (refine w9 (d := 1) hI (show (i : Int) < (i : Int) + 1 by omega) h3 h4 eN (hs.trans ?_)
          kernel_rfl)
       | (rw [aK (Int.ofNat_lt.1 (aZ c4))] at hs
          exact w9 hI ma h3 h4 eN hs))
theorem aaH {xs l : ag} (hx : xs.length <= 2147483648) (hl : l.length <= 2147483648) : lp dZ bR fU fu (ri xs (-1) 1 l 0) oN = cm (EC xs) (w8 xs) l ([], -1, 1) := by
 have hm : maxLen = 9223372036854775807 := by decide
 refine dD (xs := l) (T := fun n s => lp dZ bR fU n s oN) (st := fun (i : Int) (s : Cg) => ED xs l i s) (f := EC xs) (fin := w8 xs) (fun (i : Nat) (s : Cg) => RsI i s) (by omega) ?_ ?_ (a := ([], -1, 1)) ⟨rfl, by decide, by decide, by decide⟩
 ·rintro i ⟨o, a, p⟩ x n ⟨h1, h2, h3, h4⟩ hi gx gi hw hd
  cases o with
  | nil => exact Ja h1 h2 h3 h4 hl hi gi hw hd
  | cons v o => exact Jb h1 h2 h3 h4 hl hi gi hw hd
 ·rintro ⟨o, a, p⟩ n ⟨h1, h2, h3, h4⟩ hd
  have h1 : o.length = l.length := h1
  have h2 : a < (l.length : Int) := h2
  have h3 : 1 <= p := h3
  have hp : p ≠ 0 := by omega
  have hfin : w8 xs (o, a, p) = bif decide (a >= 0) then (bif (aR xs).tmod p == 0 then gW 3 (o.set a.toNat (i64.wrap ((aR xs).tdiv p))) else some (.panic 131 4, [])) else bif aR xs == p then gW 3 o else some (.panic 131 4, []) := rfl
  rw [hfin]
  cases o with
  | nil =>
   have ha : decide (a >= 0) = false := de (by simp only [List.length_nil] at h1; omega)
   show lp _ _ _ (n + 1) (ri xs a p l (l.length : Int)) _ = _
   rw [NH, hd, ax]
   rw [aE (show xs.length <= 9223372036854775807 by omega), ak, ha, ax, ax]
   cases aR xs == p <;> rfl
  | cons v o =>
   show lp _ _ _ (n + 1) (gN (v :: o) xs a p l (l.length : Int)) _ = _
   rw [NI, hd, ax]
   rw [aE (show xs.length <= 9223372036854775807 by omega), ak]
   cases ha : decide (a >= 0) with
   | false =>
    rw [ax, ax]
    cases aR xs == p <;> rfl
   | true =>
    have ha0 := aZ ha
    rw [ak, ak, if_neg hp, aA, if_neg hp, aA]
    cases (aR xs).tmod p == 0 with
    | false => rfl
    | true =>
     have hat : a.toNat < (v :: o).length := by omega
     have gs : fJ (v :: o) a.toNat (i64.wrap ((aR xs).tdiv p)) = some ((v :: o).set a.toNat (i64.wrap ((aR xs).tdiv p))) := by unfold fJ; rw [show Nat.blt a.toNat (v :: o).length = true from Nat.ble_eq_true_of_le hat]; rfl
     rw [Bool.not_true, ax, ak, yQ (xs := v :: o) (k := a) ha0 (by omega), aA, gs, aA]
     have lC : ∃ v' o', (v :: o).set a.toNat (i64.wrap ((aR xs).tdiv p)) = v' :: o' := by
      cases hq : (v :: o).set a.toNat (i64.wrap ((aR xs).tdiv p)) with
      | nil => have := congrArg List.length hq; simp at this
      | cons v' o' => exact ⟨_, _, rfl⟩
     obtain ⟨v', o', hq⟩ := lC
     rw [hq]
     rfl
def rsR (xs : ag) : List Int -> Cg -> Option Cg
 | [], s => some s
 | x :: l, s => match EC xs s x with
  | .go s' => rsR xs l s'
  | .stop _ => none
def GL (xs : ag) (s : Cg) : Option (ag) := bif decide (s.2.1 >= 0) then (bif (aR xs).tmod s.2.2 == 0 then some (s.1.set s.2.1.toNat (i64.wrap ((aR xs).tdiv s.2.2))) else none) else bif aR xs == s.2.2 then some s.1 else none
def yS : aj := rD
def aaI (aa : bk) (xs : ag) : Option (ag) := (rsR xs (ai aa yS []) ([], -1, 1)).bind (GL xs)
theorem NL {xs : ag} {s : Cg} {x : Int} {r : Option (aq × LHp)} (h : EC xs s x = .stop r) : r = some (.panic 131 4, []) := by
 have key : ∀ {o : ag} {a p d : Int}, Ch o a p d = .stop r -> r = some (.panic 131 4, []) := by
  intro o a p d h
  unfold Ch at h
  cases h5 : decide (d >= 1) with
  | false => rw [h5] at h; cases h; rfl
  | true =>
   cases h6 : decide (d <= 65536) with
   | false => rw [h5, h6] at h; cases h; rfl
   | true =>
    cases h7 : decide (i64.wrap (p * d) <= 65536) with
    | false => rw [h5, h6, h7] at h; cases h; rfl
    | true => rw [h5, h6, h7] at h; cases h
 unfold EC at h
 cases c1 : (x == -1 && decide (s.2.1 < 0)) with
 | true => rw [c1, ak] at h; exact key h
 | false =>
  rw [c1, ax] at h
  cases c2 : (x == 0 && decide ((s.1.length : Int) < Int.ofNat xs.length)) with
  | true => rw [c2, ak] at h; exact key h
  | false => rw [c2, ax] at h; exact key h
theorem NM (xs : ag) : ∀ (l : ag) (s : Cg), dj (.slice af) (cm (EC xs) (w8 xs) l s) = (uK ((rsR xs l s).bind (GL xs))).run ah
 | [], s => by
  show dj _ (w8 xs s) = (uK (GL xs s)).run ah
  unfold w8 GL
  cases decide (s.2.1 >= 0) with
  | true =>
   cases (aR xs).tmod s.2.2 == 0 with
   | true => exact jV _ _
   | false => rfl
  | false =>
   cases aR xs == s.2.2 with
   | true => exact jV _ _
   | false => rfl
 | x :: l, s => by
  rw [cm, rsR]
  cases hq : EC xs s x with
  | go s' => exact NM xs l s'
  | stop r => rw [NL hq]; rfl
theorem afz (xs l : ag) : hlp dZ bR fU (aq × LHp) (ri xs (-1) 1 l 0) oN = lp dZ bR fU fu (ri xs (-1) 1 l 0) oN := rfl
def afA (aa : bk) (xs : ag) : Bool := (aaI aa xs).isSome
def afB (aa : bk) (xs : ag) : ag := (aaI aa xs).getD []
def aaJ : List AV -> LHp -> Tq
 | [.d Y6 ((_, _, _, _, aa, _), _, _), .d zS xs], [] => .br (aD aa) (.br (decide (xs.length <= 2147483648)) (TX (afA aa xs) (afB aa xs)) .no) .no
 | _, _ => .no
theorem T3 : bE 216 (ao aaJ) := by
 have h1 := bS (d := 7) (l := [(4, [1, 5, 6, 7, 13, 14, 15])]) I4 func216 call216
 refine aO fun args hs ae aF h' => ?_
 unfold aaJ at h'
 split at h'
 ·rename_i op nm ins out aa _ vs _ xs
  obtain ⟨hs, h2⟩ := Tq.br_no h'
  obtain ⟨hb, h3⟩ := Tq.br_no h2
  have hb := aZ hb
  refine h1.okO (.slice af) (Eq.trans ?_ (show (uK (aaI aa xs)).run ah = some (ae, aF) from h3))
  refine Eq.trans (congrArg (dj _) (aal op nm ins out aa vs xs)) ?_
  have hL := jW hs yS (ot := []) (by decide)
  rw [hs, ak]
  have h9 := (afz xs (ai aa yS [])).trans (aaH hb hL)
  exact (congrArg (dj (.slice af)) h9).trans (NM xs _ _)
 ·cases h'
noncomputable def afC : FnE := cU [(Y6), .slice af] (ao aaJ)
theorem T5 : bE 216 afC := bF T3
abbrev Ci (n : (Y2).den) (vs : cg) : AV := .d (Y6) (n, vs, ())
noncomputable def gWd : Env := IJ.add 215 (ao nuF)
theorem Cj : gWd.Good := dY.add Mn
theorem aaK (op nm : aj) (ins : List (aj)) (out : aj) (aa : bk) (vs : cg) (a b h w kh kw : Int) : aC gWd f214 5 [] [Ci (op, nm, ins, out, aa, ()) vs, .d (.slice af) [a, b, h, w], .d (.slice af) [kh, kw]] [] ah = bif decide (aa.length <= 9223372036854775807 /\ (ai aa gq [1, 1]).length <= 2147483648) then bif cy 2 1 100 (ai aa gq [1, 1]) then bif decide (aa.length <= 9223372036854775807 /\ (ai aa cW [0, 0, 0, 0]).length <= 2147483648) then bif cy 4 0 100 (ai aa cW [0, 0, 0, 0]) then bif decide (aa.length <= 9223372036854775807 /\ (ai aa gr [1, 1]).length <= 2147483648) then bif cy 2 1 100 (ai aa gr [1, 1]) then (idx (ai aa cW [0, 0, 0, 0]) 0).bind fun v6 => ((ai aa cW [0, 0, 0, 0])[0]?).bind fun v7 => (idx (ai aa cW [0, 0, 0, 0]) 2).bind fun v8 => ((ai aa cW [0, 0, 0, 0])[2]?).bind fun v9 => (idx (ai aa gr [1, 1]) 0).bind fun v10 => ((ai aa gr [1, 1])[0]?).bind fun v11 => bif !decide (i64.wrap (i64.wrap (i64.wrap (i64.wrap (h + v7) + v9) - i64.wrap (v11 * i64.wrap (kh - 1))) - 1) >= 0) then aV else (idx (ai aa gq [1, 1]) 0).bind fun vQ => ((ai aa gq [1, 1])[0]?).bind fun qN => (if qN = 0 then none else some (i64.wrap ((i64.wrap (i64.wrap (i64.wrap (i64.wrap (h + v7) + v9) - i64.wrap (v11 * i64.wrap (kh - 1))) - 1)).tdiv qN))).bind fun rp => (idx (ai aa cW [0, 0, 0, 0]) 1).bind fun zE => ((ai aa cW [0, 0, 0, 0])[1]?).bind fun vR => (idx (ai aa cW [0, 0, 0, 0]) 3).bind fun zL => ((ai aa cW [0, 0, 0, 0])[3]?).bind fun xw => (idx (ai aa gr [1, 1]) 1).bind fun v20 => ((ai aa gr [1, 1])[1]?).bind fun v21 => bif !decide (i64.wrap (i64.wrap (i64.wrap (i64.wrap (w + vR) + xw) - i64.wrap (v21 * i64.wrap (kw - 1))) - 1) >= 0) then aV else (idx (ai aa gq [1, 1]) 1).bind fun v23 => ((ai aa gq [1, 1])[1]?).bind fun v24 => (if v24 = 0 then none else some (i64.wrap ((i64.wrap (i64.wrap (i64.wrap (i64.wrap (w + vR) + xw) - i64.wrap (v21 * i64.wrap (kw - 1))) - 1)).tdiv v24))).bind fun v25 => ay [I (i64.wrap (rp + 1)), I (i64.wrap (v25 + 1))] else aV else none else aV else none else aV else none := by kernel_rfl
theorem aaL (op nm : aj) (ins : List (aj)) (out : aj) (aa : bk) (vs : cg) (a b h w kh kw : Int) : aC gWd f214 5 [] [Ci (op, nm, ins, out, aa, ()) vs, .d (.slice af) [a, b, h, w], .os 0 0] [(0, .arr 3 af 0 false [kh, kw])] ah = bif decide (aa.length <= 9223372036854775807 /\ (ai aa gq [1, 1]).length <= 2147483648) then bif cy 2 1 100 (ai aa gq [1, 1]) then bif decide (aa.length <= 9223372036854775807 /\ (ai aa cW [0, 0, 0, 0]).length <= 2147483648) then bif cy 4 0 100 (ai aa cW [0, 0, 0, 0]) then bif decide (aa.length <= 9223372036854775807 /\ (ai aa gr [1, 1]).length <= 2147483648) then bif cy 2 1 100 (ai aa gr [1, 1]) then (idx (ai aa cW [0, 0, 0, 0]) 0).bind fun v6 => ((ai aa cW [0, 0, 0, 0])[0]?).bind fun v7 => (idx (ai aa cW [0, 0, 0, 0]) 2).bind fun v8 => ((ai aa cW [0, 0, 0, 0])[2]?).bind fun v9 => (idx (ai aa gr [1, 1]) 0).bind fun v10 => ((ai aa gr [1, 1])[0]?).bind fun v11 => bif !decide (i64.wrap (i64.wrap (i64.wrap (i64.wrap (h + v7) + v9) - i64.wrap (v11 * i64.wrap (kh - 1))) - 1) >= 0) then some (aq.panic 131 4, [(0, al.arr 3 (af) 0 false [kh, kw])]) else (idx (ai aa gq [1, 1]) 0).bind fun vQ => ((ai aa gq [1, 1])[0]?).bind fun qN => (if qN = 0 then none else some (i64.wrap ((i64.wrap (i64.wrap (i64.wrap (i64.wrap (h + v7) + v9) - i64.wrap (v11 * i64.wrap (kh - 1))) - 1)).tdiv qN))).bind fun rp => (idx (ai aa cW [0, 0, 0, 0]) 1).bind fun zE => ((ai aa cW [0, 0, 0, 0])[1]?).bind fun vR => (idx (ai aa cW [0, 0, 0, 0]) 3).bind fun zL => ((ai aa cW [0, 0, 0, 0])[3]?).bind fun xw => (idx (ai aa gr [1, 1]) 1).bind fun v20 => ((ai aa gr [1, 1])[1]?).bind fun v21 => bif !decide (i64.wrap (i64.wrap (i64.wrap (i64.wrap (w + vR) + xw) - i64.wrap (v21 * i64.wrap (kw - 1))) - 1) >= 0) then some (aq.panic 131 4, [(0, al.arr 3 (af) 0 false [kh, kw])]) else (idx (ai aa gq [1, 1]) 1).bind fun v23 => ((ai aa gq [1, 1])[1]?).bind fun v24 => (if v24 = 0 then none else some (i64.wrap ((i64.wrap (i64.wrap (i64.wrap (i64.wrap (w + vR) + xw) - i64.wrap (v21 * i64.wrap (kw - 1))) - 1)).tdiv v24))).bind fun v25 => some (aq.ret [I (i64.wrap (rp + 1)), I (i64.wrap (v25 + 1))], [(0, al.arr 3 (af) 0 false [kh, kw])]) else some (aq.panic 131 4, [(0, al.arr 3 (af) 0 false [kh, kw])]) else none else some (aq.panic 131 4, [(0, al.arr 3 (af) 0 false [kh, kw])]) else none else some (aq.panic 131 4, [(0, al.arr 3 (af) 0 false [kh, kw])]) else none := by kernel_rfl
def nZ (o : Option (Int × Int × Int)) : Option (aq × LHp) := o.bind fun p => bif p.2.2 == 0 then some (.ret [I p.1, I p.2.1], []) else some (.panic 131 p.2.2, [])
theorem Jc (c : Bool) (a b : Option (Int × Int × Int)) : nZ (bif c then a else b) = bif c then nZ a else nZ b := by cases c <;> rfl
theorem EE {α : Type} (x : Option α) (f : α -> Option (Int × Int × Int)) : nZ (x.bind f) = x.bind fun v => nZ (f v) := by cases x <;> rfl
theorem EF : nZ none = none := rfl
theorem Jd (x y : Int) : nZ (some (x, y, 0)) = some (.ret [I x, I y], []) := rfl
theorem NN : nZ (some (0, 0, 4)) = some (.panic 131 4, []) := rfl
def uM (aa : bk) (h w kh kw : Int) : Option (Int × Int × Int) :=
  bif decide (aa.length <= 9223372036854775807 /\ (ai aa gq [1, 1]).length <= 2147483648) then  bif cy 2 1 100 (ai aa gq [1, 1]) then  bif decide (aa.length <= 9223372036854775807 /\ (ai aa cW [0, 0, 0, 0]).length <= 2147483648) then  bif cy 4 0 100 (ai aa cW [0, 0, 0, 0]) then  bif decide (aa.length <= 9223372036854775807 /\ (ai aa gr [1, 1]).length <= 2147483648) then  bif cy 2 1 100 (ai aa gr [1, 1]) then (idx (ai aa cW [0, 0, 0, 0]) 0).bind fun v6 => ((ai aa cW [0, 0, 0, 0])[0]?).bind fun v7 => (idx (ai aa cW [0, 0, 0, 0]) 2).bind fun v8 => ((ai aa cW [0, 0, 0, 0])[2]?).bind fun v9 => (idx (ai aa gr [1, 1]) 0).bind fun v10 => ((ai aa gr [1, 1])[0]?).bind fun v11 => bif !decide (i64.wrap (i64.wrap (i64.wrap (i64.wrap (h + v7) + v9) - i64.wrap (v11 * i64.wrap (kh - 1))) - 1) >= 0) then some (0, 0, 4) else (idx (ai aa gq [1, 1]) 0).bind fun vQ => ((ai aa gq [1, 1])[0]?).bind fun qN => (if qN = 0 then none else some (i64.wrap ((i64.wrap (i64.wrap (i64.wrap (i64.wrap (h + v7) + v9) - i64.wrap (v11 * i64.wrap (kh - 1))) - 1)).tdiv qN))).bind fun rp => (idx (ai aa cW [0, 0, 0, 0]) 1).bind fun zE => ((ai aa cW [0, 0, 0, 0])[1]?).bind fun vR => (idx (ai aa cW [0, 0, 0, 0]) 3).bind fun zL => ((ai aa cW [0, 0, 0, 0])[3]?).bind fun xw => (idx (ai aa gr [1, 1]) 1).bind fun v20 => ((ai aa gr [1, 1])[1]?).bind fun v21 => bif !decide (i64.wrap (i64.wrap (i64.wrap (i64.wrap (w + vR) + xw) - i64.wrap (v21 * i64.wrap (kw - 1))) - 1) >= 0) then some (0, 0, 4) else (idx (ai aa gq [1, 1]) 1).bind fun v23 => ((ai aa gq [1, 1])[1]?).bind fun v24 => (if v24 = 0 then none else some (i64.wrap ((i64.wrap (i64.wrap (i64.wrap (i64.wrap (w + vR) + xw) - i64.wrap (v21 * i64.wrap (kw - 1))) - 1)).tdiv v24))).bind fun v25 => some ((i64.wrap (rp + 1)), (i64.wrap (v25 + 1)), 0) else some (0, 0, 4) else none else some (0, 0, 4) else none else some (0, 0, 4) else none
theorem T6 (op nm : aj) (ins : List (aj)) (out : aj) (aa : bk) (vs : cg) (a b h w kh kw : Int) : aC gWd f214 5 [] [Ci (op, nm, ins, out, aa, ()) vs, .d (.slice af) [a, b, h, w], .d (.slice af) [kh, kw]] [] ah = nZ (uM aa h w kh kw) := by
 rw [aaK]
 unfold uM
 simp only [Jc, EE, EF, Jd, NN]
def mQ (hs : LHp) (o : Option (Int × Int × Int)) : Option (aq × LHp) := o.bind fun p => bif p.2.2 == 0 then some (.ret [I p.1, I p.2.1], hs) else some (.panic 131 p.2.2, hs)
theorem Je (hs : LHp) (c : Bool) (a b : Option (Int × Int × Int)) : mQ hs (bif c then a else b) = bif c then mQ hs a else mQ hs b := by cases c <;> rfl
theorem EG (hs : LHp) {α : Type} (x : Option α) (f : α -> Option (Int × Int × Int)) : mQ hs (x.bind f) = x.bind fun v => mQ hs (f v) := by cases x <;> rfl
theorem EH (hs : LHp) : mQ hs none = none := rfl
theorem Jf (hs : LHp) (x y : Int) : mQ hs (some (x, y, 0)) = some (.ret [I x, I y], hs) := rfl
theorem NO (hs : LHp) : mQ hs (some (0, 0, 4)) = some (.panic 131 4, hs) := rfl
def T7 (ks : ag) : LHp := [(0, .arr 3 af 0 false ks)]
theorem T8 (op nm : aj) (ins : List (aj)) (out : aj) (aa : bk) (vs : cg) (a b h w kh kw : Int) : aC gWd f214 5 [] [Ci (op, nm, ins, out, aa, ()) vs, .d (.slice af) [a, b, h, w], .os 0 0] (T7 [kh, kw]) ah = mQ (T7 [kh, kw]) (uM aa h w kh kw) := by
 refine (aaL op nm ins out aa vs a b h w kh kw).trans ?_
 unfold uM
 simp only [Je, EG, EH, Jf, NO]
 rfl
def lS (aa : bk) (xs ks : ag) : Bool := (uM aa (xs.getD 2 0) (xs.getD 3 0) (ks.getD 0 0) (ks.getD 1 0)).isSome
def NP (aa : bk) (xs ks : ag) : Int × Int × Int := (uM aa (xs.getD 2 0) (xs.getD 3 0) (ks.getD 0 0) (ks.getD 1 0)).getD (0, 0, 0)
def dM (aa : bk) (xs ks : ag) : Int := (NP aa xs ks).2.2
def lg (aa : bk) (xs ks : ag) : Int := (NP aa xs ks).1
def lh (aa : bk) (xs ks : ag) : Int := (NP aa xs ks).2.1
theorem GM {hs : LHp} {aa : bk} {xs ks : ag} : mQ hs (uM aa (xs.getD 2 0) (xs.getD 3 0) (ks.getD 0 0) (ks.getD 1 0)) = bif lS aa xs ks then (bif dM aa xs ks == 0 then some (.ret [I (lg aa xs ks), I (lh aa xs ks)], hs) else some (.panic 131 (dM aa xs ks), hs)) else none := by
 unfold lS dM lg lh NP
 cases uM aa (xs.getD 2 0) (xs.getD 3 0) (ks.getD 0 0) (ks.getD 1 0) <;> rfl
theorem T9 (o : Option (Int × Int × Int)) : nZ o = mQ [] o := rfl
theorem Ww {xs : ag} (h : xs.length = 4) : xs = [xs.getD 0 0, xs.getD 1 0, xs.getD 2 0, xs.getD 3 0] := by
 match xs, h with
 | [a, b, c, d], _ => rfl
theorem Wx {xs : ag} (h : xs.length = 2) : xs = [xs.getD 0 0, xs.getD 1 0] := by
 match xs, h with
 | [a, b], _ => rfl
def NQ : List AV -> LHp -> Tq
 | [.d Y6 ((_, _, _, _, aa, _), _, _), .d zS xs, .d zS ks], [] => .br (decide (xs.length = 4 /\ ks.length = 2)) (.br (lS aa xs ks) (.br (dM aa xs ks == 0) (.leaf (.ret [I (lg aa xs ks), I (lh aa xs ks)]) []) (.leaf (.panic 131 (dM aa xs ks)) [])) .no) .no
 | _, _ => .no
def NR : List AV -> LHp -> Tq
 | [.d Y6 ((_, _, _, _, aa, _), _, _), .d zS xs, .os 0 0], [(0, .arr 3 zI 0 false ks)] => .br (decide (xs.length = 4 /\ ks.length = 2)) (.br (lS aa xs ks) (.br (dM aa xs ks == 0) (.leaf (.ret [I (lg aa xs ks), I (lh aa xs ks)]) (T7 ks)) (.leaf (.panic 131 (dM aa xs ks)) (T7 ks))) .no) .no
 | _, _ => .no
theorem NS : bE 214 (ao NQ) := by
 have h1 := bS (d := 5) (l := []) Cj func214 call214
 refine aO fun args hs ae aF h' => ?_
 unfold NQ at h'
 split at h'
 ·rename_i op nm ins out aa _ vs _ xs ks
  obtain ⟨hb, h2⟩ := Tq.br_no h'
  obtain ⟨hx, hk⟩ := aZ hb
  refine h1.okC ?_
  have key := (T6 op nm ins out aa vs (xs.getD 0 0) (xs.getD 1 0) (xs.getD 2 0) (xs.getD 3 0) (ks.getD 0 0) (ks.getD 1 0)).trans ((T9 _).trans GM)
  rw [← Ww hx, ← Wx hk] at key
  exact key.trans h2
 ·cases h'
theorem NT : bE 214 (ao NR) := by
 have h1 := bS (d := 5) (l := []) Cj func214 call214
 refine aO fun args hs ae aF h' => ?_
 unfold NR at h'
 split at h'
 ·rename_i op nm ins out aa _ vs _ xs ks
  obtain ⟨hb, h2⟩ := Tq.br_no h'
  obtain ⟨hx, hk⟩ := aZ hb
  refine h1.okC ?_
  have key := (T8 op nm ins out aa vs (xs.getD 0 0) (xs.getD 1 0) (xs.getD 2 0) (xs.getD 3 0) (ks.getD 0 0) (ks.getD 1 0)).trans GM
  rw [← Ww hx, ← Wx hk] at key
  exact key.trans h2
 ·cases h'
def aaM (args : List AV) (hs : LHp) : Tq := orT (NQ args hs) (NR args hs)
theorem GN : bE 214 (ao aaM) := jO NS NT
noncomputable def Wy : Code := bD f77
noncomputable def Jg : Code := cL (cL (cR (cL (cR (cR Wy)))))
noncomputable def kJ : Cfg := ⟨26, 5, 0, [(4, [0, 1, 12, 13])], true⟩
def xa (xs ys : ag) (i : Int) : LSt := ⟨aw 5 [(0, .d (.slice af) xs), (1, .d (.slice af) ys), (12, I (Int.ofNat xs.length)), (13, I i)], [], 0⟩
noncomputable def KEq : AEx -> LSt -> Option (aq × LHp) := (aW 0 (bt vn kJ [4] (hlp vn kJ) (cR (cR (cR Wy))) (bA prog 0 f77.results.toList ah)))
theorem aaN (xs ys : ag) : aC vn f77 5 [(4, [0, 1, 12, 13])] [.d (.slice af) xs, .d (.slice af) ys] [] ah = bif Int.ofNat xs.length != Int.ofNat ys.length then ay [B false] else (hlp vn kJ) Jg _ (xa xs ys 0) KEq := (bI [4] kJ rfl).trans (by obtain ⟨hl, h⟩ := bw vn kJ; rw [h]; kernel_rfl)
theorem NU (xs ys : ag) (i : Int) (n : Nat) {R : Type} (k : AEx -> LSt -> Option R) : lp vn kJ Jg (n + 1) (xa xs ys i) k = bif decide (i < Int.ofNat xs.length) then (idx xs i).bind fun v1 => (idx ys i).bind fun v2 => bif v1 != v2 then k AEx.ret { fr := aw 5 [(0, AV.d (af).slice xs), (1, AV.d (af).slice ys), (4, B false), (5, I i), (12, I (Int.ofNat xs.length)), (13, I i), (14, B true), (15, I i), (16, AV.d (af).slice xs), (17, I i), (18, AV.ip (af) v1), (19, I v1), (20, AV.d (af).slice ys), (21, I i), (22, AV.ip (af) v2), (23, I v2), (24, B true)], hp := [], nx := 0 } else lp vn kJ Jg n (xa xs ys (i64.wrap (i + 1))) k else k (AEx.exit 0) { fr := aw 5 [(0, AV.d (af).slice xs), (1, AV.d (af).slice ys), (12, I (Int.ofNat xs.length)), (13, I i), (14, B false)], hp := [], nx := 0 } := by kernel_rfl
theorem afF (xs ys : ag) (i : Int) : KEq (.exit 0) ⟨aw 5 [(0, .d (.slice af) xs), (1, .d (.slice af) ys), (12, I (Int.ofNat xs.length)), (13, I i), (14, B false)], [], 0⟩ = ay [B true] := by kernel_rfl
theorem aaO {xs ys : ag} (hxy : xs.length = ys.length) (hl : xs.length <= maxLen) : ∀ (r j nn : Nat), j + r = xs.length -> r < nn ->
  lp vn kJ Jg nn (xa xs ys ((j : Nat) : Int)) KEq = some (.ret [B (xs.drop j == ys.drop j)], []) := by
 have hm : maxLen = 9223372036854775807 := by decide
 intro r
 induction r with
 | zero =>
  intro j nn hj hn
  obtain ⟨nn, rfl⟩ : ∃ m', nn = m' + 1 := ⟨nn - 1, by omega⟩
  rw [NU, de (show ¬ (((j : Nat) : Int) < Int.ofNat xs.length) by simp only [aT]; omega), ax, List.drop_eq_nil_of_le (by omega), List.drop_eq_nil_of_le (by omega)]
  exact afF xs ys _
 | succ r ih =>
  intro j nn hj hn
  obtain ⟨nn, rfl⟩ : ∃ m', nn = m' + 1 := ⟨nn - 1, by omega⟩
  have key := ih (j + 1) nn (by omega) (by omega)
  have h1 : j < xs.length := by omega
  have h2 : j < ys.length := by omega
  have g1 : idx xs ((j : Nat) : Int) = some (xs[j]) := by unfold idx; rw [if_pos (by omega), Int.toNat_natCast, List.getElem?_eq_getElem h1]
  have g2 : idx ys ((j : Nat) : Int) = some (ys[j]) := by unfold idx; rw [if_pos (by omega), Int.toNat_natCast, List.getElem?_eq_getElem h2]
  have e1 : xs.drop j = xs[j] :: xs.drop (j + 1) := List.drop_eq_getElem_cons h1
  have e2 : ys.drop j = ys[j] :: ys.drop (j + 1) := List.drop_eq_getElem_cons h2
  have w1 : i64.wrap (((j : Nat) : Int) + 1) = ((j + 1 : Nat) : Int) := by rw [aJ (by omega) (by omega)]; omega
  generalize xs[j] = a at *
  generalize ys[j] = b at *
  rw [NU, aE (show ((j : Nat) : Int) < Int.ofNat xs.length by simp only [aT]; omega), ak, g1, aA, g2, aA, w1, e1, e2]
  cases hb : a != b with
  | true =>
   have : (a :: xs.drop (j + 1) == b :: ys.drop (j + 1)) = false := by
    rw [beq_eq_false_iff_ne]
    intro h
    injection h with h _
    rw [h, bne_self_eq_false] at hb
    cases hb
   rw [this]
   show _ = _
   kernel_rfl
  | false =>
   have hab : a = b := by simpa using hb
   have : (a :: xs.drop (j + 1) == b :: ys.drop (j + 1)) = (xs.drop (j + 1) == ys.drop (j + 1)) := by rw [hab]; simp
   rw [this]
   exact key
theorem afG (xs ys : ag) : hlp vn kJ Jg (aq × LHp) (xa xs ys 0) KEq = lp vn kJ Jg fu (xa xs ys 0) KEq := rfl
theorem Ua {xs ys : ag} (hl : xs.length <= maxLen) : aC vn f77 5 [(4, [0, 1, 12, 13])] [.d (.slice af) xs, .d (.slice af) ys] [] ah = some (.ret [B (xs == ys)], []) := by
 rw [aaN]
 by_cases h : xs.length = ys.length
 ·rw [show (Int.ofNat xs.length != Int.ofNat ys.length) = false by rw [h]; exact bne_self_eq_false _, ax]
  have hm : maxLen = 9223372036854775807 := by decide
  have key := aaO h hl xs.length 0 fu (by omega) (by unfold fu; omega)
  rw [List.drop_zero, List.drop_zero] at key
  exact (afG xs ys).trans key
 ·rw [show (Int.ofNat xs.length != Int.ofNat ys.length) = true by rw [bne_iff_ne]; simp only [aT]; omega, ak]
  have : (xs == ys) = false := by
   rw [beq_eq_false_iff_ne]
   intro e
   exact h (by rw [e])
  rw [this]
def NV : List AV -> LHp -> Tq
 | [.d zS xs, .d zS ys], [] => .br (decide (xs.length <= maxLen)) (.leaf (.ret [B (xs == ys)]) []) .no
 | _, _ => .no
theorem yT : bE 77 (ao NV) := by
 refine cj fK bX func77 call77 (depth := 5) (live := [(4, [0, 1, 12, 13])]) (by decide +kernel) rfl fun args hs p h => ?_
 unfold NV at h
 split at h
 ·obtain ⟨hl, h⟩ := Tq.br_no h
  cases h
  have hl := aZ hl
  exact Ua hl
 ·cases h
noncomputable def Wz : Code := bD f154
noncomputable def pM : Code := cL (cL (cR (cL (cR (cR (cR (cR Wz)))))))
noncomputable def ez : Cfg := ⟨51, 6, 0, [(5, [1, 5, 6, 7, 26, 27, 28])], true⟩
noncomputable def xb : Env := ((IJ.add 214 (ao aaM)).add 25 (ao Yq)).add 215 (ao nuF)
theorem NW : xb.Good := ((dY.add GN).add F6).add Mn
def Jh (xs ks ps : ag) (H W i : Int) : LSt := { fr := aw 6 [(1, .d (.slice af) xs), (5, .os 0 0), (6, I H), (7, I W), (26, .os 1 0), (27, I (Int.ofNat ps.length)), (28, I i)], hp := [(0, .arr 3 af 0 false ks), (1, .arr 2 af 0 false ps)], nx := 2 }
noncomputable def J5 : AEx -> LSt -> Option (aq × LHp) := (aW 0 (bt xb ez [5] (hlp xb ez) (cR (cR (cR (cR (cR Wz))))) (bA prog 0 f154.results.toList ah)))
theorem aaP (op nm : aj) (ins : List (aj)) (out : aj) (aa : bk) (vs : cg) (xs : ag) : aC xb f154 6 [(5, [1, 5, 6, 7, 26, 27, 28])] [Ci (op, nm, ins, out, aa, ()) vs, .d (.slice af) xs] [] ah = bif decide (aa.length <= 9223372036854775807 /\ (ai aa fS []).length <= 2147483648) then bif cy 2 1 100 (ai aa fS []) then bif !Int.ofNat xs.length == 4 then aV else bif decide (xs.length = 4 /\ (ai aa fS []).length = 2) then bif lS aa xs (ai aa fS []) then bif dM aa xs (ai aa fS []) == 0 then bif decide (aa.length <= 9223372036854775807) then bif (List.find? (fun a => a.fst == cW && a.snd.fst == 7) aa).isNone then (hlp xb ez) pM _ { fr := aw 6 [(1, AV.d (af).slice xs), (5, AV.os 0 0), (6, I (lg aa xs (ai aa fS []))), (7, I (lh aa xs (ai aa fS []))), (26, AV.nils), (27, I 0), (28, I 0)], hp := [(0, al.arr 3 (af) 0 false (ai aa fS []))], nx := 1 } J5 else bif decide (ai aa cW [] = []) then (hlp xb ez) pM _ { fr := aw 6 [(1, AV.d (af).slice xs), (5, AV.os 0 0), (6, I (lg aa xs (ai aa fS []))), (7, I (lh aa xs (ai aa fS []))), (26, AV.emp), (27, I 0), (28, I 0)], hp := [(0, al.arr 3 (af) 0 false (ai aa fS []))], nx := 1 } J5 else bif decide ((ai aa cW []).length <= 2147483648) then (hlp xb ez) pM _ (Jh xs (ai aa fS []) (ai aa cW []) (lg aa xs (ai aa fS [])) (lh aa xs (ai aa fS [])) 0) J5 else none else none else some (aq.panic 131 (dM aa xs (ai aa fS [])), []) else none else none else aV else none := (bI [5] ez rfl).trans (by obtain ⟨hl, h⟩ := bw xb ez; rw [h]; kernel_rfl)
def Ji (xs ks : ag) (H W : Int) (q : AV) : LSt := { fr := aw 6 [(1, .d (.slice af) xs), (5, .os 0 0), (6, I H), (7, I W), (26, q), (27, I 0), (28, I 0)], hp := [(0, .arr 3 af 0 false ks)], nx := 1 }
theorem NX (xs ks ps : ag) (H W i : Int) (n : Nat) {R : Type} (k : AEx -> LSt -> Option R) : lp xb ez pM (n + 1) (Jh xs ks ps H W i) k = bif decide (i < Int.ofNat ps.length) then (idx ps i).bind fun v1 => (ps[i.toNat]?).bind fun v2 => (idx ks (i.tmod 2)).bind fun v3 => (ks[(i.tmod 2).toNat]?).bind fun v4 => bif !decide (v2 < v4) then k (AEx.panic 131 4) { fr := aw 6 [(1, AV.d (af).slice xs), (5, AV.os 0 0), (6, I H), (7, I W), (8, I i), (9, I v2), (26, AV.os 1 0), (27, I (Int.ofNat ps.length)), (28, I i), (29, B true), (30, I i), (31, AV.oe 1 0 i.toNat), (32, I v2), (33, I v2), (34, AV.os 0 0), (35, I i), (36, I (i.tmod 2)), (37, AV.oe 0 0 (i.tmod 2).toNat), (38, I v4), (39, B (decide (v2 < v4)))], hp := [(0, al.arr 3 (af) 0 false ks), (1, al.arr 2 (af) 0 false ps)], nx := 2 } else lp xb ez pM n (Jh xs ks ps H W (i64.wrap (i + 1))) k else k (AEx.exit 0) { fr := aw 6 [(1, AV.d (af).slice xs), (5, AV.os 0 0), (6, I H), (7, I W), (26, AV.os 1 0), (27, I (Int.ofNat ps.length)), (28, I i), (29, B false)], hp := [(0, al.arr 3 (af) 0 false ks), (1, al.arr 2 (af) 0 false ps)], nx := 2 } := by kernel_rfl
theorem aaQ (xs ks : ag) (H W : Int) (n : Nat) {R : Type} (k : AEx -> LSt -> Option R) : lp xb ez pM (n + 1) (Ji xs ks H W .nils) k = k (AEx.exit 0) { fr := aw 6 [(1, AV.d (af).slice xs), (5, AV.os 0 0), (6, I H), (7, I W), (26, AV.nils), (27, I 0), (28, I 0), (29, B false)], hp := [(0, al.arr 3 (af) 0 false ks)], nx := 1 } := by kernel_rfl
theorem aaR (xs ks : ag) (H W : Int) (n : Nat) {R : Type} (k : AEx -> LSt -> Option R) : lp xb ez pM (n + 1) (Ji xs ks H W .emp) k = k (AEx.exit 0) { fr := aw 6 [(1, AV.d (af).slice xs), (5, AV.os 0 0), (6, I H), (7, I W), (26, AV.emp), (27, I 0), (28, I 0), (29, B false)], hp := [(0, al.arr 3 (af) 0 false ks)], nx := 1 } := by kernel_rfl
theorem aaS (xs ks ps : ag) (H W i : Int) : J5 (.exit 0) { fr := aw 6 [(1, .d (.slice af) xs), (5, .os 0 0), (6, I H), (7, I W), (26, .os 1 0), (27, I (Int.ofNat ps.length)), (28, I i), (29, B false)], hp := [(0, .arr 3 af 0 false ks), (1, .arr 2 af 0 false ps)], nx := 2 } = (idx xs 0).bind fun v0 => (idx xs 1).bind fun v1 => some (aq.ret [AV.os 0 0], [(0, al.arr 3 (af) 0 false [v0, v1, H, W])]) := by kernel_rfl
theorem NY (xs ks : ag) (H W : Int) (q : AV) : J5 (.exit 0) { fr := aw 6 [(1, .d (.slice af) xs), (5, .os 0 0), (6, I H), (7, I W), (26, q), (27, I 0), (28, I 0), (29, B false)], hp := [(0, .arr 3 af 0 false ks)], nx := 1 } = (idx xs 0).bind fun v0 => (idx xs 1).bind fun v1 => some (aq.ret [AV.os 0 0], [(0, al.arr 3 (af) 0 false [v0, v1, H, W])]) := by kernel_rfl
noncomputable def gIv : Env := ((IJ.add 214 (ao aaM)).add 59 (ao uq)).add 77 (ao NV)
theorem NZ : gIv.Good := ((dY.add GN).add jm).add yT
noncomputable def yU (aa : bk) (xs : ag) (hO : Y3.den) : Option (aq × LHp) := (if (0 : Int) <= 2 /\ 2 <= Int.ofNat (List.length hO.2.2.1) /\ Int.ofNat (List.length hO.2.2.1) <= Int.ofNat (List.length hO.2.2.1) then some (List.drop 2 (List.take (Int.ofNat (List.length hO.2.2.1)).toNat hO.2.2.1)) else none).bind fun vP => bif decide (xs.length = 4 /\ vP.length = 2) then bif lS aa xs vP then bif dM aa xs vP == 0 then (idx xs 0).bind fun zb1 => (idx hO.2.2.1 0).bind fun zb2 => some (aq.ret [AV.os 0 0], [(0, al.arr 3 (af) 0 false [zb1, zb2, lg aa xs vP, lh aa xs vP])]) else some (aq.panic 131 (dM aa xs vP), []) else none else none
theorem aaT (op nm : aj) (ins : List (aj)) (out : aj) (aa : bk) (vs : cg) (xs : ag) : aC gIv f153 7 [] [Ci (op, nm, ins, out, aa, ()) vs, .d (.slice af) xs] [] ah = (idx vs 1).bind fun v0 => bif decide (aa.length <= 9223372036854775807) then bif Int.ofNat xs.length == 4 then bif Int.ofNat (List.length v0.2.2.1) == 4 then bif decide (aX aa gF 1 >= 1) then bif !decide (aX aa gF 1 <= 65536) then aV else (idx xs 1).bind fun v6 => (if aX aa gF 1 = 0 then none else some (Int.tmod v6 (aX aa gF 1))).bind fun v7 => bif v7 == 0 then (idx v0.2.2.1 0).bind fun v9 => (if aX aa gF 1 = 0 then none else some (Int.tmod v9 (aX aa gF 1))).bind fun v10 => bif v10 == 0 then (idx v0.2.2.1 1).bind fun v12 => (idx xs 1).bind fun vQ => (if aX aa gF 1 = 0 then none else some (i64.wrap (Int.tdiv vQ (aX aa gF 1)))).bind fun qN => bif !v12 == qN then aV else bif decide (Int.ofNat vs.length < 3) then yU aa xs v0 else (idx vs 2).bind fun vR => (if (0 : Int) <= 0 /\ (0 : Int) <= 1 /\ 1 <= Int.ofNat (List.length v0.2.2.1) then some (List.drop 0 (List.take 1 v0.2.2.1)) else none).bind fun zL => bif decide (List.length vR.2.2.1 <= 9223372036854775807) then bif !vR.2.2.1 == zL then aV else yU aa xs v0 else none else aV else aV else aV else aV else aV else none := by kernel_rfl
def vK (o : Option (ag ⊕ Int)) : Option (aq × LHp) := o.bind fun p => match p with
 | .inl l => some (.ret [.os 0 0], [(0, .arr 3 af 0 false l)])
 | .inr e => some (.panic 131 e, [])
theorem N0 (c : Bool) (a b : Option (ag ⊕ Int)) : vK (bif c then a else b) = bif c then vK a else vK b := by cases c <;> rfl
theorem Jj {α : Type} (x : Option α) (f : α -> Option (ag ⊕ Int)) : vK (x.bind f) = x.bind fun v => vK (f v) := by cases x <;> rfl
theorem Jk : vK none = none := rfl
theorem N1 (l : ag) : vK (some (.inl l)) = some (.ret [.os 0 0], [(0, .arr 3 af 0 false l)]) := rfl
theorem N2 (e : Int) : vK (some (.inr e)) = some (.panic 131 e, []) := rfl
def afH (o : Option (ag ⊕ Int)) : Bool := o.isSome
def afI (o : Option (ag ⊕ Int)) : Bool := match o with | some (.inl _) => true | _ => false
def afJ (o : Option (ag ⊕ Int)) : ag := match o with | some (.inl l) => l | _ => []
def afK (o : Option (ag ⊕ Int)) : Int := match o with | some (.inr e) => e | _ => 0
theorem aaU (o : Option (ag ⊕ Int)) : vK o = bif afH o then (bif afI o then some (.ret [.os 0 0], [(0, .arr 3 af 0 false (afJ o))]) else some (.panic 131 (afK o), [])) else none := by
 rcases o with _ | l | e <;> rfl
def nI (aa : bk) (vs : cg) (xs : ag) : Option (ag ⊕ Int) :=
  (idx vs 1).bind fun v0 => bif decide (aa.length <= 9223372036854775807) then  bif Int.ofNat xs.length == 4 then  bif Int.ofNat (List.length v0.2.2.1) == 4 then  bif decide (aX aa gF 1 >= 1) then  bif !decide (aX aa gF 1 <= 65536) then some (.inr 4) else (idx xs 1).bind fun v6 => (if aX aa gF 1 = 0 then none else some (Int.tmod v6 (aX aa gF 1))).bind fun v7 => bif v7 == 0 then (idx v0.2.2.1 0).bind fun v9 => (if aX aa gF 1 = 0 then none else some (Int.tmod v9 (aX aa gF 1))).bind fun v10 => bif v10 == 0 then (idx v0.2.2.1 1).bind fun v12 => (idx xs 1).bind fun vQ => (if aX aa gF 1 = 0 then none else some (i64.wrap (Int.tdiv vQ (aX aa gF 1)))).bind fun qN => bif !v12 == qN then some (.inr 4) else  bif decide (Int.ofNat vs.length < 3) then (if (0 : Int) <= 2 /\ 2 <= Int.ofNat (List.length v0.2.2.1) /\ Int.ofNat (List.length v0.2.2.1) <= Int.ofNat (List.length v0.2.2.1) then some (List.drop 2 (List.take (Int.ofNat (List.length v0.2.2.1)).toNat v0.2.2.1)) else none).bind fun vR => bif decide (xs.length = 4 /\ vR.length = 2) then  bif lS aa xs vR then  bif dM aa xs vR == 0 then (idx xs 0).bind fun v21 => (idx v0.2.2.1 0).bind fun v22 => some (.inl [v21, v22, lg aa xs vR, lh aa xs vR]) else some (.inr (dM aa xs vR)) else none else none else (idx vs 2).bind fun vR => (if (0 : Int) <= 0 /\ (0 : Int) <= 1 /\ 1 <= Int.ofNat (List.length v0.2.2.1) then some (List.drop 0 (List.take 1 v0.2.2.1)) else none).bind fun zL => bif decide (List.length vR.2.2.1 <= 9223372036854775807) then  bif !vR.2.2.1 == zL then some (.inr 4) else (if (0 : Int) <= 2 /\ 2 <= Int.ofNat (List.length v0.2.2.1) /\ Int.ofNat (List.length v0.2.2.1) <= Int.ofNat (List.length v0.2.2.1) then some (List.drop 2 (List.take (Int.ofNat (List.length v0.2.2.1)).toNat v0.2.2.1)) else none).bind fun v21 => bif decide (xs.length = 4 /\ v21.length = 2) then  bif lS aa xs v21 then  bif dM aa xs v21 == 0 then (idx xs 0).bind fun v25 => (idx v0.2.2.1 0).bind fun v26 => some (.inl [v25, v26, lg aa xs v21, lh aa xs v21]) else some (.inr (dM aa xs v21)) else none else none else none else some (.inr 4) else some (.inr 4) else some (.inr 4) else some (.inr 4) else some (.inr 4) else none
theorem Ub (op nm : aj) (ins : List (aj)) (out : aj) (aa : bk) (vs : cg) (xs : ag) : aC gIv f153 7 [] [Ci (op, nm, ins, out, aa, ()) vs, .d (.slice af) xs] [] ah = vK (nI aa vs xs) := by
 rw [aaT]; simp only [yU]
 unfold nI
 simp only [N0, Jj, Jk, N1, N2]
def vL (aa : bk) (vs : cg) (xs : ag) : Bool := afH (nI aa vs xs)
def oF (aa : bk) (vs : cg) (xs : ag) : Bool := afI (nI aa vs xs)
def yV (aa : bk) (vs : cg) (xs : ag) : ag := afJ (nI aa vs xs)
def rH (aa : bk) (vs : cg) (xs : ag) : Int := afK (nI aa vs xs)
def aaV : List AV -> LHp -> Tq
 | [.d Y6 ((_, _, _, _, aa, _), vs, _), .d zS xs], [] => .br (vL aa vs xs) (.br (oF aa vs xs) (.leaf (.ret [.os 0 0]) [(0, .arr 3 af 0 false (yV aa vs xs))]) (.leaf (.panic 131 (rH aa vs xs)) [])) .no
 | _, _ => .no
theorem Uc : bE 153 (ao aaV) := by
 have h1 := bS (d := 7) (l := []) NZ func153 call153
 refine aO fun args hs ae aF h' => ?_
 unfold aaV at h'
 split at h'
 ·exact h1.okC (((Ub _ _ _ _ _ _ _).trans (aaU _)).trans h')
 ·cases h'
noncomputable def GO : Code := bD f49
noncomputable def Ud : Code := cL (cL (cR (cL (cR GO))))
noncomputable def je : Cfg := ⟨19, 5, 0, [(2, [0, 1, 7, 8])], true⟩
theorem aaW (a : (Y1).den) : aC g12 f206 3 [] [.d (Y1) a] [] ah = ay [B (a.1 == QF)] := by kernel_rfl
def gj (a : (Y1).den) : Bool := a.1 == jU
def aaX : List AV -> LHp -> Option (aq × LHp)
 | [.d Y1 a], [] => some (.ret [B (gj a)], [])
 | _, _ => none
theorem Ue : bE 206 (fnE aaX) := by
 refine ic uf bX func206 call206 (depth := 3) (live := []) (by decide +kernel) rfl fun args hs p h => ?_
 unfold aaX at h
 split at h
 ·cases h
  exact aaW _
 ·cases h
noncomputable def GP : Env := g13.add 206 (fnE aaX)
theorem N3 : GP.Good := pq.add Ue
def N4 (bs : bk) (i : Int) : LSt := ⟨aw 5 [(0, .d (.slice (Y1)) bs), (1, .fn (.func 206) [] []), (7, I (Int.ofNat bs.length)), (8, I i)], [], 0⟩
theorem aaY (bs : bk) : aC GP f49 5 [(2, [0, 1, 7, 8])] [.d (.slice (Y1)) bs, .fn (.func 206) [] []] [] ah = (hlp GP je) Ud _ (N4 bs 0) (aW 0 (bt GP je [2] (hlp GP je) (cR (cR GO)) (bA prog 0 f49.results.toList ah))) := (bI [2] je rfl).trans (by obtain ⟨hl, h⟩ := bw GP je; rw [h]; kernel_rfl)
theorem aaZ (bs : bk) (i : Int) (n : Nat) {R : Type} (k : AEx -> LSt -> Option R) : lp GP je Ud (n + 1) (N4 bs i) k = bif decide (i < Int.ofNat bs.length) then (idx bs i).bind fun v1 => bif gj v1 then k AEx.ret { fr := aw 5 [(0, AV.d Y1.slice bs), (1, AV.fn (Fn.func 206) [] []), (4, I i), (5, I i), (7, I (Int.ofNat bs.length)), (8, I i), (9, B true), (10, I i), (11, AV.fn (Fn.func 206) [] []), (12, AV.d Y1.slice bs), (13, I i), (14, AV.ip Y1 v1), (15, AV.d Y1 v1), (16, B true), (17, I i)], hp := [], nx := 0 } else lp GP je Ud n (N4 bs (i64.wrap (i + 1))) k else k (AEx.exit 0) { fr := aw 5 [(0, AV.d Y1.slice bs), (1, AV.fn (Fn.func 206) [] []), (7, I (Int.ofNat bs.length)), (8, I i), (9, B false)], hp := [], nx := 0 } := by kernel_rfl
theorem Uf {bs : bk} (hl : bs.length <= maxLen) : aC GP f49 5 [(2, [0, 1, 7, 8])] [.d (.slice (Y1)) bs, .fn (.func 206) [] []] [] ah = some (.ret [I (bu gj bs)], []) := by
 rw [aaY]
 have hs := fun (i : Int) (n : Nat) => aaZ bs i n (aW 0 (bt GP je [2] (hlp GP je) (cR (cR GO)) (bA prog 0 f49.results.toList ah)))
 have h := fM (T := fun n s => lp GP je Ud n s (aW 0 (bt GP je [2] (hlp GP je) (cR (cR GO)) (bA prog 0 f49.results.toList ah)))) (xs := bs) (st := fun i => N4 bs i) hl hs
 unfold N4 at h
 refine h.trans ?_
 unfold bu
 cases hq : bs.findIdx? gj with
 | none => show _ = _; kernel_rfl
 | some i =>
  obtain ⟨hi, _⟩ := List.findIdx?_eq_some_iff_getElem.1 hq
  simp only [List.getElem?_eq_getElem hi, aA]
  show _ = _
  kernel_rfl
def aa0 : List AV -> LHp -> Tq
 | [.d (.slice Y1) bs, .fn (.func 206) [] []], [] => .br (decide (bs.length <= maxLen)) (.leaf (.ret [I (bu gj bs)]) []) .no
 | _, _ => .no
theorem Ug : bE 49 (ao aa0) := by
 refine cj N3 bX func49 call49 (depth := 5) (live := [(2, [0, 1, 7, 8])]) (by decide +kernel) rfl fun args hs p h => ?_
 unfold aa0 at h
 split at h
 ·obtain ⟨hl, h⟩ := Tq.br_no h
  cases h
  have hl := aZ hl
  exact Uf hl
 ·cases h
noncomputable def gCn : Env := g46.add 49 (ao aa0)
theorem N5 : gCn.Good := BB.add Ug
theorem aa1 (op nm : aj) (ins : List (aj)) (out : aj) (aa : bk) (vs : cg) : aC gCn f145 4 [] [gu (op, nm, ins, out, aa, ()) vs] [] ah = bif decide (aa.length <= 9223372036854775807) then (idx aa (bu gj aa)).bind fun v1 => ay [AV.d Y0 v1.2.2.2.2.2.1] else none := by kernel_rfl
def Uh : List AV -> LHp -> Tq
 | [.d Y6 ((_, _, _, _, aa, _), _, _)], [] => .br (decide (aa.length <= maxLen)) (.opt (aa.find? gj) fun a => .leaf (.ret [.d (Y0) a.2.2.2.2.2.1]) []) .no
 | _, _ => .no
theorem GQ : bE 145 (ao Uh) := by
 have h1 := bS (d := 4) (l := []) N5 func145 call145
 refine aO fun args hs ae aF h' => ?_
 unfold Uh at h'
 split at h'
 ·rename_i op nm ins out aa _ vs _
  obtain ⟨hb, h2⟩ := Tq.br_no h'
  refine h1.okC ((aa1 op nm ins out aa vs).trans ?_)
  have e2 : idx aa (bu (fun b => gj b) aa) = aa.find? gj := ud _ _
  rw [aE (show aa.length <= 9223372036854775807 from aZ hb), ak]
  refine Eq.trans ?_ h2
  show (idx aa (bu gj aa)).bind _ = (aa.find? gj).bind _
  rw [e2]
  rfl
 ·cases h'
noncomputable def N6 : Env := ((((vn.add 146 (ao TD)).add 111 (ao Nl)).add 147 (ao aai)).add 59 (ao uq)).add 145 (ao Uh)
theorem Jl : N6.Good := ((((fK.add GB).add Nn).add TJ).add jm).add GQ
noncomputable def cV (op : aj) (vs : cg) (hO : Y3.den) : Option (aq × LHp) := bif (I0 op hO.2.1).2 != 1 then bif decide (vs.length <= 9223372036854775807) then bif !kI vs hO.2.1 then aV else ay [I hO.2.1] else none else aV
noncomputable def cB (op : aj) (hO : Y3.den) : Option (aq × LHp) := bif !(lQ op hO.2.1).2 == 0 then aV else ay [I hO.2.1]
noncomputable def si (op : aj) (vs : cg) (hO : Y3.den) : Option (aq × LHp) := bif op == Iu then bif decide (vs.length <= 9223372036854775807) then bif !kI vs hO.2.1 then aV else ay [I hO.2.1] else none else bif op == vG then (idx vs 1).bind fun vP => bif vP.2.1 == 6 then ay [I hO.2.1] else (idx vs 1).bind fun zb1 => bif !zb1.2.1 == 7 then aV else ay [I hO.2.1] else bif op == Ir then ay [I hO.2.1] else bif op == Is then ay [I hO.2.1] else bif op == It then ay [I hO.2.1] else bif op == Iv then ay [I hO.2.1] else bif op == Iw then ay [I hO.2.1] else bif op == Ix then ay [I hO.2.1] else bif op == Lg then ay [I hO.2.1] else bif decide (vs.length <= 9223372036854775807) then bif !kI vs 1 then aV else ay [I hO.2.1] else none
noncomputable def ky (op : aj) (vs : cg) (hO : Y3.den) : Option (aq × LHp) := bif (I0 op hO.2.1).2 == 0 then bif decide (vs.length <= 9223372036854775807) then bif !kI vs hO.2.1 then aV else ay [I 9] else none else aV
noncomputable def sj (aa : bk) : Option (aq × LHp) := bif decide (aa.length <= 9223372036854775807) then bif !bz (aX aa [116, 111] 0) 0 then some (aq.panic 131 5, []) else ay [I (aX aa [116, 111] 0)] else none
noncomputable def sk (vs : cg) (hO : Y3.den) : Option (aq × LHp) := bif hO.2.1 == 9 then (idx vs 1).bind fun vP => (idx vs 2).bind fun zb1 => bif !vP.2.1 == zb1.2.1 then aV else (idx vs 1).bind fun zb2 => ay [I zb2.2.1] else aV
noncomputable def sl (hO : Y3.den) : Option (aq × LHp) := bif hO.2.1 == 7 then ay [I hO.2.1] else bif !hO.2.1 == 1 then aV else ay [I hO.2.1]
theorem yW (op nm : aj) (ins : List (aj)) (out : aj) (aa : bk) (vs : cg) : aC N6 f104 8 [] [gu (op, nm, ins, out, aa, ()) vs] [] ah = bif op == tZ then bif decide (aa.length <= 9223372036854775807) then (List.find? gj aa).bind fun v2 => ay [I v2.2.2.2.2.2.1.1] else none else (idx vs 0).bind fun v1 => bif v1.2.1 == 6 then bif op == QL then cB op v1 else bif op == Lj then cB op v1 else bif op == Iz then cB op v1 else bif op == [78, 111, 116] then cB op v1 else bif op == QG then cB op v1 else bif op == QH then cB op v1 else bif op == QI then cB op v1 else bif op == [69, 120, 112] then cB op v1 else bif op == QJ then cB op v1 else bif op == QK then cB op v1 else bif op == vF then ky op vs v1 else bif op == ym then ky op vs v1 else bif op == yo then ky op vs v1 else bif op == K8 then cV op vs v1 else bif op == QD then cV op vs v1 else bif op == K9 then cV op vs v1 else bif op == La then cV op vs v1 else bif op == Lb then cV op vs v1 else bif op == QE then cV op vs v1 else bif op == V9 then cV op vs v1 else bif op == [79, 114] then cV op vs v1 else bif op == Wa then cV op vs v1 else bif op == tY then sk vs v1 else bif op == D9 then sj aa else bif op == Ea then ay [I v1.2.1] else bif op == Eb then ay [I v1.2.1] else bif op == yq then ay [I 7] else si op vs v1 else bif op == QL then cB op v1 else bif op == Lj then cB op v1 else bif op == Iz then cB op v1 else bif op == [78, 111, 116] then cB op v1 else bif op == QG then cB op v1 else bif op == QH then cB op v1 else bif op == QI then cB op v1 else bif op == [69, 120, 112] then cB op v1 else bif op == QJ then cB op v1 else bif op == QK then cB op v1 else bif op == vF then ky op vs v1 else bif op == ym then ky op vs v1 else bif op == yo then ky op vs v1 else bif op == K8 then cV op vs v1 else bif op == QD then cV op vs v1 else bif op == K9 then cV op vs v1 else bif op == La then cV op vs v1 else bif op == Lb then cV op vs v1 else bif op == QE then cV op vs v1 else bif op == V9 then cV op vs v1 else bif op == [79, 114] then cV op vs v1 else bif op == Wa then cV op vs v1 else bif op == tY then sk vs v1 else bif op == D9 then sj aa else bif op == Ea then sl v1 else bif op == Eb then sl v1 else bif op == yq then bif v1.2.1 == 7 then ay [I 7] else bif !v1.2.1 == 1 then aV else ay [I 7] else si op vs v1 := by kernel_rfl
noncomputable def EI (r : Option (aq × LHp)) : Option (Int × Int) := match r with
 | some (.ret [.d (.int .i64) a], []) => some (a, 0)
 | some (.panic t c, []) => bif Nat.beq t 131 && !(c == 0) then some (0, c) else none
 | _ => none
theorem GR (c : Bool) (a b : Option (aq × LHp)) : EI (bif c then a else b) = bif c then EI a else EI b := by cases c <;> rfl
theorem Ck {α : Type} (x : Option α) (f : α -> Option (aq × LHp)) : EI (x.bind f) = x.bind fun v => EI (f v) := by cases x <;> rfl
theorem Cl : EI none = none := rfl
theorem GS (a : Int) : EI (some (.ret [I a], [])) = some (a, 0) := rfl
theorem N7 : EI (some (.panic 131 4, [])) = some (0, 4) := rfl
theorem N8 : EI (some (.panic 131 5, [])) = some (0, 5) := rfl
noncomputable def rI (op : aj) (aa : bk) (vs : cg) : Option (Int × Int) := EI (aC N6 f104 8 [] [gu (op, [], [], [], aa, ()) vs] [] ah)
theorem Ui (op nm : aj) (ins : List (aj)) (out : aj) (aa : bk) (vs : cg) : aC N6 f104 8 [] [gu (op, nm, ins, out, aa, ()) vs] [] ah = aC N6 f104 8 [] [gu (op, [], [], [], aa, ()) vs] [] ah := (yW op nm ins out aa vs).trans (yW op [] [] [] aa vs).symm
noncomputable def yX (op : aj) (aa : bk) (vs : cg) : Bool := (rI op aa vs).isSome
noncomputable def pN (op : aj) (aa : bk) (vs : cg) : Int := ((rI op aa vs).getD (0, 0)).1
noncomputable def mR (op : aj) (aa : bk) (vs : cg) : Int := ((rI op aa vs).getD (0, 0)).2
theorem N9 {r : Option (aq × LHp)} (h : (EI r).isSome = true) : r = bif ((EI r).getD (0, 0)).2 == 0 then some (.ret [I ((EI r).getD (0, 0)).1], []) else some (.panic 131 ((EI r).getD (0, 0)).2, []) := by
 unfold EI at h ⊢
 split at h
 ·rfl
 ·rename_i t c
  cases hb : Nat.beq t 131 && !(c == 0) with
  | false => rw [hb] at h; cases h
  | true =>
   rw [bg] at hb
   obtain rfl := bo hb.1
   have : (c == 0) = false := by simpa using hb.2
   simp [this]
 ·cases h
noncomputable def aa2 : List AV -> LHp -> Tq
 | [.d Y6 ((op, _, _, _, aa, _), vs, _)], [] => .br (yX op aa vs) (.br (mR op aa vs == 0) (.leaf (.ret [I (pN op aa vs)]) []) (.leaf (.panic 131 (mR op aa vs)) [])) .no
 | _, _ => .no
theorem Uj : bE 104 (ao aa2) := by
 have h1 := bS (d := 8) (l := []) Jl func104 call104
 refine aO fun args hs ae aF h' => ?_
 unfold aa2 at h'
 split at h'
 ·rename_i op nm ins out aa _ vs _
  obtain ⟨hb, h2⟩ := Tq.br_no h'
  exact h1.okC (((Ui op nm ins out aa vs).trans (N9 hb)).trans h2)
 ·cases h'
noncomputable def afL : Code := bD f106
noncomputable def rJ : Code := cL (cL (cR (cR (cR afL))))
noncomputable def gO : Cfg := ⟨32, 6, 0, [(3, [1, 16, 17, 18])], true⟩
noncomputable def C8 : Env := (sa.add 146 (ao TD)).add 144 (ao SX)
theorem Oa : C8.Good := (dR.add GB).add Gq
def Jn (t : Int) : LSt := ⟨aw 6 [(1, I t), (16, .nils), (17, I 0), (18, I 0)], [], 0⟩
def Jm (t : Int) (l : List (aj)) (i : Int) : LSt := ⟨aw 6 [(1, I t), (16, .d (.slice .str) l), (17, I (Int.ofNat l.length)), (18, I i)], [], 0⟩
noncomputable def PN : AEx -> LSt -> Option (aq × LHp) := (aW 0 (bA prog 0 f106.results.toList ah))
theorem aa3 (op nm : aj) (ins : List (aj)) (out : aj) (aa : bk) (vs : cg) (t : Int) : aC C8 f106 6 [(3, [1, 16, 17, 18])] [gu (op, nm, ins, out, aa, ()) vs, I t] [] ah = bif aD aa then bif lP aa then (hlp C8 gO) rJ _ (Jn t) PN else bif jo aa then (hlp C8 gO) rJ _ (Jn t) PN else (hlp C8 gO) rJ _ (Jm t (pF aa) 0) PN else none := (bI [3] gO rfl).trans (by obtain ⟨hl, h⟩ := bw C8 gO; rw [h]; kernel_rfl)
theorem Ob (t : Int) (l : List (aj)) (i : Int) (n : Nat) {R : Type} (k : AEx -> LSt -> Option R) : lp C8 gO rJ (n + 1) (Jm t l i) k = bif decide (i < Int.ofNat l.length) then (idx l i).bind fun v1 => bif !(lQ v1 t).2 == 0 then k (AEx.panic 131 4) { fr := aw 6 [(1, I t), (7, AV.d Ty.str v1), (8, I (lQ v1 t).1), (9, I (lQ v1 t).2), (16, AV.d Ty.str.slice l), (17, I (Int.ofNat l.length)), (18, I i), (19, B true), (20, AV.ip Ty.str v1), (21, AV.d Ty.str v1), (22, AV.tup [I (lQ v1 t).1, I (lQ v1 t).2]), (23, AV.d Ty.str v1), (24, I t), (25, AV.tup [I (lQ v1 t).1, I (lQ v1 t).2]), (26, I (lQ v1 t).1), (27, I (lQ v1 t).2), (28, I (lQ v1 t).2), (29, B ((lQ v1 t).2 == 0))], hp := [], nx := 0 } else lp C8 gO rJ n (Jm t l (i64.wrap (i + 1))) k else k (AEx.exit 0) { fr := aw 6 [(1, I t), (16, AV.d Ty.str.slice l), (17, I (Int.ofNat l.length)), (18, I i), (19, B false)], hp := [], nx := 0 } := by kernel_rfl
theorem aa4 (t : Int) (n : Nat) {R : Type} (k : AEx -> LSt -> Option R) : lp C8 gO rJ (n + 1) (Jn t) k = k (AEx.exit 0) { fr := aw 6 [(1, I t), (16, AV.nils), (17, I 0), (18, I 0), (19, B false)], hp := [], nx := 0 } := by kernel_rfl
theorem WV (t : Int) (q : AV) (i n : Int) : PN (.exit 0) ⟨aw 6 [(1, I t), (16, q), (17, I n), (18, I i), (19, B false)], [], 0⟩ = ay [] := by kernel_rfl
noncomputable def okU (t : Int) (o : aj) : Bool := (lQ o t).2 == 0
theorem aa5 {t : Int} {l : List (aj)} (hl : l.length <= 2147483648) : ∀ (r j nn : Nat), j + r = l.length -> r < nn ->
  lp C8 gO rJ nn (Jm t l ((j : Nat) : Int)) PN = bif (l.drop j).all (okU t) then some (.ret [], []) else some (.panic 131 4, []) := by
 intro r
 induction r with
 | zero =>
  intro j nn hj hn
  obtain ⟨nn, rfl⟩ : ∃ m', nn = m' + 1 := ⟨nn - 1, by omega⟩
  rw [Ob, de (show ¬ (((j : Nat) : Int) < Int.ofNat l.length) by simp only [aT]; omega), ax, List.drop_eq_nil_of_le (by omega)]
  exact WV t _ _ _
 | succ r ih =>
  intro j nn hj hn
  obtain ⟨nn, rfl⟩ : ∃ m', nn = m' + 1 := ⟨nn - 1, by omega⟩
  have key := ih (j + 1) nn (by omega) (by omega)
  have cn : j < l.length := by omega
  have gI : idx l ((j : Nat) : Int) = some (l[j]) := by
   unfold idx
   rw [if_pos (by omega), Int.toNat_natCast, List.getElem?_eq_getElem cn]
  have ed : l.drop j = l[j] :: l.drop (j + 1) := List.drop_eq_getElem_cons cn
  have w1 : i64.wrap (((j : Nat) : Int) + 1) = ((j + 1 : Nat) : Int) := by rw [aJ (by omega) (by omega)]; omega
  generalize l[j] = o at *
  rw [Ob, aE (show ((j : Nat) : Int) < Int.ofNat l.length by simp only [aT]; omega), ak, gI, aA, w1, ed, List.all_cons]
  have eo : okU t o = ((lQ o t).2 == 0) := rfl
  rw [eo]
  cases hb : (lQ o t).2 == 0 with
  | true =>
   rw [Bool.not_true, ax, Bool.true_and]
   exact key
  | false =>
   show _ = _
   kernel_rfl
theorem aa6 (t : Int) (l : List (aj)) : hlp C8 gO rJ (aq × LHp) (Jm t l 0) PN = lp C8 gO rJ fu (Jm t l 0) PN := rfl
theorem Oc (t : Int) : hlp C8 gO rJ (aq × LHp) (Jn t) PN = lp C8 gO rJ fu (Jn t) PN := rfl
noncomputable def kK (aa : bk) (t : Int) : Bool := lP aa || jo aa || (pF aa).all (okU t)
theorem Uk {op nm : aj} {ins : List (aj)} {out : aj} {aa : bk} {vs : cg} {t : Int} (h : aD aa = true) : aC C8 f106 6 [(3, [1, 16, 17, 18])] [gu (op, nm, ins, out, aa, ()) vs, I t] [] ah = bif kK aa t then some (.ret [], []) else some (.panic 131 4, []) := by
 obtain ⟨n', Fb⟩ : ∃ n, fu = n + 1 := ⟨18446744073709551615, rfl⟩
 have en : lp C8 gO rJ fu (Jn t) PN = some (.ret [], []) := by
  rw [Fb, aa4]
  exact WV t _ _ _
 rw [aa3, h, ak]
 unfold kK
 cases lP aa with
 | true => exact (Oc t).trans en
 | false =>
  rw [ax]
  cases jo aa with
  | true => exact (Oc t).trans en
  | false =>
   rw [ax]
   have hl : (pF aa).length <= 2147483648 := by
    unfold pF
    cases hf : aa.find? (gZ ns 3) with
    | none => simp
    | some a =>
     have := il h (List.mem_of_find?_eq_some hf)
     have h2 := qB a.2.2.2.2.1
     have h3 := this.2.1
     show (cE a.2.2.2.2.1).length <= _
     omega
   have key := aa5 (t := t) hl (pF aa).length 0 fu (by omega) (by unfold fu; omega)
   rw [List.drop_zero] at key
   exact (aa6 t (pF aa)).trans key
noncomputable def aa7 : List AV -> LHp -> Tq
 | [.d Y6 ((_, _, _, _, aa, _), _, _), .d zI t], [] => .br (aD aa) (.br (kK aa t) (.leaf (.ret []) []) (.leaf (.panic 131 4) [])) .no
 | _, _ => .no
theorem Ul : bE 106 (ao aa7) := by
 have h1 := bS (d := 6) (l := [(3, [1, 16, 17, 18])]) Oa func106 call106
 refine aO fun args hs ae aF h' => ?_
 unfold aa7 at h'
 split at h'
 ·obtain ⟨hb, h2⟩ := Tq.br_no h'
  exact h1.okC ((Uk hb).trans h2)
 ·cases h'
def dq : aj := fS
def n5 : aj := cW
def n6 (ks : ag) : Nat -> List Int -> Bool
 | _, [] => true
 | i, p :: r => decide (p < ks.getD (i % 2) 0) && n6 ks (i + 1) r
def plL (xs : ag) (H W : Int) : Option (aq × LHp) := some (.ret [.os 0 0], [(0, .arr 3 af 0 false [xs.getD 0 0, xs.getD 1 0, H, W])])
theorem uN {xs : ag} {i : Nat} (h : i < xs.length) : idx xs ((i : Nat) : Int) = some (xs.getD i 0) := by
 unfold idx
 rw [if_pos (by omega), Int.toNat_natCast, List.getD_eq_getElem?_getD, List.getElem?_eq_getElem h]
 rfl
theorem plx {xs : ag} (hx : xs.length = 4) (H W : Int) : ((idx xs 0).bind fun v0 => (idx xs 1).bind fun v1 => some (aq.ret [AV.os 0 0], [(0, al.arr 3 af 0 false [v0, v1, H, W])])) = plL xs H W := by
 have e0 := uN (xs := xs) (i := 0) (by omega)
 have e1 := uN (xs := xs) (i := 1) (by omega)
 have e0 : idx xs 0 = some (xs.getD 0 0) := e0
 have e1 : idx xs 1 = some (xs.getD 1 0) := e1
 rw [e0, e1]
 rfl
theorem aa8 {xs ks ps : ag} {H W : Int} (hx : xs.length = 4) (hk : ks.length = 2) (hp : ps.length <= 2147483648) : ∀ (r j nn : Nat), j + r = ps.length -> r < nn ->
  lp xb ez pM nn (Jh xs ks ps H W ((j : Nat) : Int)) J5 = bif n6 ks j (ps.drop j) then plL xs H W else some (.panic 131 4, []) := by
 intro r
 induction r with
 | zero =>
  intro j nn hj hn
  obtain ⟨nn, rfl⟩ : ∃ m', nn = m' + 1 := ⟨nn - 1, by omega⟩
  rw [NX, de (show ¬ (((j : Nat) : Int) < Int.ofNat ps.length) by simp only [aT]; omega), ax, List.drop_eq_nil_of_le (by omega)]
  exact (aaS xs ks ps H W _).trans (plx hx H W)
 | succ r ih =>
  intro j nn hj hn
  obtain ⟨nn, rfl⟩ : ∃ m', nn = m' + 1 := ⟨nn - 1, by omega⟩
  have key := ih (j + 1) nn (by omega) (by omega)
  have cn : j < ps.length := by omega
  have g1 : idx ps ((j : Nat) : Int) = some (ps[j]) := by unfold idx; rw [if_pos (by omega), Int.toNat_natCast, List.getElem?_eq_getElem cn]
  have g2 : ps[j]? = some (ps[j]) := List.getElem?_eq_getElem cn
  have ed : ps.drop j = ps[j] :: ps.drop (j + 1) := List.drop_eq_getElem_cons cn
  have w1 : i64.wrap (((j : Nat) : Int) + 1) = ((j + 1 : Nat) : Int) := by rw [aJ (by omega) (by omega)]; omega
  have m1 : ((j : Nat) : Int).tmod 2 = ((j % 2 : Nat) : Int) := (Int.ofNat_tmod _ _).symm
  have hm : j % 2 < ks.length := by omega
  have g3 := uN hm
  have g4 : ks[j % 2]? = some (ks.getD (j % 2) 0) := by rw [List.getD_eq_getElem?_getD, List.getElem?_eq_getElem hm]; rfl
  generalize ps[j] = p at *
  rw [NX, aE (show ((j : Nat) : Int) < Int.ofNat ps.length by simp only [aT]; omega), ak, g1, aA, Int.toNat_natCast, g2, aA, m1, g3, aA, Int.toNat_natCast, g4, aA, w1, ed]
  have eo : n6 ks j (p :: ps.drop (j + 1)) = (decide (p < ks.getD (j % 2) 0) && n6 ks (j + 1) (ps.drop (j + 1))) := rfl
  rw [eo]
  cases hb : decide (p < ks.getD (j % 2) 0) with
  | true =>
   rw [Bool.not_true, ax, Bool.true_and]
   exact key
  | false =>
   show _ = _
   kernel_rfl
theorem aa9 (xs ks ps : ag) (H W : Int) : hlp xb ez pM (aq × LHp) (Jh xs ks ps H W 0) J5 = lp xb ez pM fu (Jh xs ks ps H W 0) J5 := rfl
theorem Od (xs ks : ag) (H W : Int) (q : AV) : hlp xb ez pM (aq × LHp) (Ji xs ks H W q) J5 = lp xb ez pM fu (Ji xs ks H W q) J5 := rfl
theorem afM {xs : ag} (hx : xs.length = 4) (ks : ag) (H W : Int) : lp xb ez pM fu (Ji xs ks H W .nils) J5 = plL xs H W := by
 obtain ⟨n', Fb⟩ : ∃ n, fu = n + 1 := ⟨18446744073709551615, rfl⟩
 rw [Fb, aaQ]
 exact (NY xs ks H W _).trans (plx hx H W)
theorem afN {xs : ag} (hx : xs.length = 4) (ks : ag) (H W : Int) : lp xb ez pM fu (Ji xs ks H W .emp) J5 = plL xs H W := by
 obtain ⟨n', Fb⟩ : ∃ n, fu = n + 1 := ⟨18446744073709551615, rfl⟩
 rw [Fb, aaR]
 exact (NY xs ks H W _).trans (plx hx H W)
theorem Cm {aa : bk} (h : aD aa = true) (name : aj) : (ai aa name []).length <= 2147483648 := by
 unfold ai
 cases hf : aa.find? (gZ name 7) with
 | none => simp
 | some a => exact (il h (List.mem_of_find?_eq_some hf)).2.2
theorem jZ {c lo hi : Int} {l : ag} (h : cy c lo hi l = true) : Int.ofNat l.length = c := by
 unfold cy at h
 rw [bg] at h
 exact eq_of_beq h.2
def aba (aa : bk) (xs : ag) : Tq :=
 .br (aD aa) (.br (cy 2 1 100 (ai aa dq [])) (.br (Int.ofNat xs.length == 4) (.br (lS aa xs (ai aa dq [])) (.br (dM aa xs (ai aa dq []) == 0)
  (.br (n6 (ai aa dq []) 0 (ai aa n5 [])) (.leaf (.ret [.os 0 0]) [(0, .arr 3 af 0 false [xs.getD 0 0, xs.getD 1 0, lg aa xs (ai aa dq []), lh aa xs (ai aa dq [])])]) (.leaf (.panic 131 4) []))
  (.leaf (.panic 131 (dM aa xs (ai aa dq []))) [])) .no) (.leaf (.panic 131 4) [])) (.leaf (.panic 131 4) [])) .no
theorem Um {op nm : aj} {ins : List (aj)} {out : aj} {aa : bk} {vs : cg} {xs : ag} (hs : aD aa = true) : aC xb f154 6 [(5, [1, 5, 6, 7, 26, 27, 28])] [Ci (op, nm, ins, out, aa, ()) vs, .d (.slice af) xs] [] ah = (aba aa xs).run ah := by
 have hlen := bQ hs
 have hK := Cm hs dq
 have hP := Cm hs n5
 refine Eq.trans (aaP op nm ins out aa vs xs) ?_
 change (bif decide (aa.length <= 9223372036854775807 /\ (ai aa dq []).length <= 2147483648) then (bif cy 2 1 100 (ai aa dq []) then _ else _) else _) = (bif aD aa then (bif cy 2 1 100 (ai aa dq []) then _ else _) else _)
 rw [hs, aE (show aa.length <= 9223372036854775807 /\ (ai aa dq []).length <= 2147483648 from ⟨by omega, hK⟩), ak, ak]
 cases hn : cy 2 1 100 (ai aa dq []) with
 | false => rfl
 | true =>
  have hk2 : (ai aa dq []).length = 2 := by
   have := jZ hn
   simp only [aT] at this
   omega
  rw [ak, ak]
  change (bif !(Int.ofNat xs.length == 4) then _ else (bif decide (xs.length = 4 /\ (ai aa dq []).length = 2) then (bif lS aa xs (ai aa dq []) then (bif dM aa xs (ai aa dq []) == 0 then _ else _) else _) else _)) = (bif Int.ofNat xs.length == 4 then (bif lS aa xs (ai aa dq []) then (bif dM aa xs (ai aa dq []) == 0 then _ else _) else _) else _)
  cases hx : Int.ofNat xs.length == 4 with
  | false => rfl
  | true =>
   have hx4 : xs.length = 4 := by
    have := eq_of_beq hx
    simp only [aT] at this
    omega
   rw [Bool.not_true, ax, ak, aE (show xs.length = 4 /\ (ai aa dq []).length = 2 from ⟨hx4, hk2⟩), ak]
   cases lS aa xs (ai aa dq []) with
   | false => rfl
   | true =>
    cases dM aa xs (ai aa dq []) == 0 with
    | false => rfl
    | true =>
     rw [ak, ak, ak, ak, aE (show aa.length <= 9223372036854775807 by omega), ak]
     change (bif (aa.find? (gZ n5 7)).isNone then _ else (bif decide (ai aa n5 [] = []) then _ else (bif decide ((ai aa n5 []).length <= 2147483648) then _ else _))) = (bif n6 (ai aa dq []) 0 (ai aa n5 []) then _ else _)
     cases hq : (aa.find? (gZ n5 7)).isNone with
     | true =>
      have hz : ai aa n5 [] = [] := by
       unfold ai
       cases hf2 : aa.find? (gZ n5 7) with
       | none => rfl
       | some a => rw [hf2] at hq; cases hq
      rw [hz, ak]
      exact (Od xs _ _ _ .nils).trans (afM hx4 _ _ _)
     | false =>
      rw [ax]
      cases PG : ai aa n5 [] with
      | nil =>
       rw [show (decide (([] : ag) = [])) = true from rfl, ak]
       exact (Od xs _ _ _ .emp).trans (afN hx4 _ _ _)
      | cons p pm =>
       have hps2 : ai aa cW [] = p :: pm := PG
       rw [PG] at hP
       rw [show (decide (p :: pm = [])) = false from rfl, ax, aE hP, ak, hps2]
       refine (aa9 xs _ (p :: pm) _ _).trans ?_
       exact aa8 hx4 hk2 hP (p :: pm).length 0 fu (by omega) (by unfold fu; omega)
def abb : List AV -> LHp -> Tq
 | [.d Y6 ((_, _, _, _, aa, _), _, _), .d zS xs], [] => aba aa xs
 | _, _ => .no
theorem Un : bE 154 (ao abb) := by
 have h1 := bS (d := 6) (l := [(5, [1, 5, 6, 7, 26, 27, 28])]) NW func154 call154
 refine aO fun args hs ae aF h' => ?_
 unfold abb at h'
 split at h'
 ·have h2 := h'
  unfold aba at h2
  obtain ⟨hb, _⟩ := Tq.br_no h2
  exact h1.okC ((Um hb).trans h')
 ·cases h'
def PO (xs ps : ag) (i : Nat) : Int := i64.wrap (xs.getD i 0 + i64.wrap (ps.getD i 0 + ps.getD (xs.length + i) 0))
def pdL (xs ps : ag) : ag := (List.range xs.length).map (PO xs ps)
def PQ (xs ps : ag) (i : Nat) : ag := (List.range i).map (PO xs ps) ++ xs.drop i
noncomputable def KPd : AEx -> LSt -> Option (aq × LHp) := (aW 0 (bt pJ iu [4] (hlp pJ iu) (cR (cR (cR (cR Nz)))) (bA prog 0 f221.results.toList ah)))
theorem abd {xs ps : ag} (hx : xs.length <= 2147483648) (hp : ps.length = 2 * xs.length) : lp pJ iu Ex fu (EB xs ps (Int.ofNat xs.length) 0 xs) KPd = yR 3 (some (pdL xs ps)) := by
 have hm : maxLen = 9223372036854775807 := by decide
 have h := dD (xs := xs) (T := fun n s => lp pJ iu Ex n s KPd) (st := fun (i : Int) (_ : Unit) => EB xs ps (Int.ofNat xs.length) i (PQ xs ps i.toNat)) (f := fun (a : Unit) (_ : Int) => .go a) (fin := fun (_ : Unit) => (some (.ret [.os 0 0], [(0, .arr 3 af 0 false (pdL xs ps))]) : Option (aq × LHp))) (fun (_ : Nat) (_ : Unit) => True) (by omega) ?_ ?_ (a := ()) trivial
 ·have e : ∀ l : ag, cm (fun (a : Unit) (_ : Int) => Nx.go a) (fun (_ : Unit) => (some (.ret [.os 0 0], [(0, .arr 3 af 0 false (pdL xs ps))]) : Option (aq × LHp))) l () = some (.ret [.os 0 0], [(0, .arr 3 af 0 false (pdL xs ps))]) := by
   intro l
   induction l with
   | nil => rfl
   | cons _ l ih => exact ih
  exact h.trans (e xs)
 ·intro i _ x n _ hi gx gi hw hd
  refine .inl ⟨(), rfl, trivial, ?_⟩
  have ed : xs.drop i = x :: xs.drop (i + 1) := by
   rw [List.getElem?_eq_getElem hi] at gx
   rw [← Option.some.inj gx]
   exact List.drop_eq_getElem_cons hi
  have el : ((List.range i).map (PO xs ps)).length = i := by simp
  have ex : x = xs.getD i 0 := by rw [List.getD_eq_getElem?_getD, gx]; rfl
  have ea : PQ xs ps i = (List.range i).map (PO xs ps) ++ x :: xs.drop (i + 1) := by unfold PQ; rw [ed]
  have g1 := nr ((List.range i).map (PO xs ps)) x (xs.drop (i + 1))
  rw [el, ← ea] at g1
  have g2 : (PQ xs ps i)[i]? = some x := by rw [ea, List.getElem?_append_right (by omega), el, Nat.sub_self]; rfl
  have g3 := se ((List.range i).map (PO xs ps)) x (PO xs ps i) (xs.drop (i + 1))
  rw [el, ← ea] at g3
  have g4 : idx ps (i : Int) = some (ps.getD i 0) := aK (by omega)
  have w5 : i64.wrap (Int.ofNat xs.length + (i : Int)) = ((xs.length + i : Nat) : Int) := by simp only [aT]; rw [aJ (by omega) (by omega)]; omega
  have g5 : idx ps ((xs.length + i : Nat) : Int) = some (ps.getD (xs.length + i) 0) := aK (by omega)
  have en : (List.range i).map (PO xs ps) ++ PO xs ps i :: xs.drop (i + 1) = PQ xs ps (i + 1) := by unfold PQ; rw [List.range_succ, List.map_append, List.append_assoc]; rfl
  have ew : i64.wrap (x + i64.wrap (ps.getD i 0 + ps.getD (xs.length + i) 0)) = PO xs ps i := by rw [ex]; rfl
  have hs := Wt xs ps (Int.ofNat xs.length) (i : Int) (PQ xs ps i) n KPd
  rw [hd, ak, g1, aA, Int.toNat_natCast, g2, aA, g4, aA, w5, g5, aA, aA, ew, g3, aA, hw, en] at hs
  exact hs
 ·intro _ n _ hd
  have e : PQ xs ps xs.length = pdL xs ps := by unfold PQ pdL; rw [List.drop_eq_nil_of_le (Nat.le_refl _), List.append_nil]
  show lp _ _ _ (n + 1) (EB xs ps (Int.ofNat xs.length) (xs.length : Int) (PQ xs ps xs.length)) _ = _
  rw [Wt, hd, ax, e]
  show _ = _
  kernel_rfl
theorem afP (xs ps : ag) : hlp pJ iu Ex (aq × LHp) (EB xs ps (Int.ofNat xs.length) 0 xs) KPd = lp pJ iu Ex fu (EB xs ps (Int.ofNat xs.length) 0 xs) KPd := rfl
def cQ : aj := cW
def Uo (aa : bk) (xs : ag) : Option (ag) := bif cy (Int.ofNat (2 * xs.length)) 0 65536 (ai aa cQ []) then some (pdL xs (ai aa cQ [])) else none
def afQ (aa : bk) (xs : ag) : Bool := (Uo aa xs).isSome
def afR (aa : bk) (xs : ag) : ag := (Uo aa xs).getD []
def abe : List AV -> LHp -> Tq
 | [.d Y6 ((_, _, _, _, aa, _), _, _), .d zS xs], [] => .br (aD aa) (.br (decide (xs.length <= 2147483648)) (TX (afQ aa xs) (afR aa xs)) .no) .no
 | _, _ => .no
theorem Up : bE 221 (ao abe) := by
 have h1 := bS (d := 6) (l := [(4, [1, 5, 6, 17, 18])]) I8 func221 call221
 refine aO fun args hs ae aF h' => ?_
 unfold abe at h'
 split at h'
 ·rename_i op nm ins out aa _ vs _ xs
  obtain ⟨hs, h2⟩ := Tq.br_no h'
  obtain ⟨hb, h3⟩ := Tq.br_no h2
  have hb := aZ hb
  refine h1.okO (.slice af) (Eq.trans ?_ (show (uK (Uo aa xs)).run ah = some (ae, aF) from h3))
  refine Eq.trans (congrArg (dj _) (aaC op nm ins out aa vs xs)) ?_
  have w : i64.wrap (Int.ofNat (2 * xs.length)) = Int.ofNat (2 * xs.length) := by simp only [aT]; exact aJ (by omega) (by omega)
  rw [hs, ak, w, aE hb, ak]
  rw [← jY 3]
  unfold Uo
  change dj _ (bif cy (Int.ofNat (2 * xs.length)) 0 65536 (ai aa cQ []) then _ else _) = _
  cases hq : cy (Int.ofNat (2 * xs.length)) 0 65536 (ai aa cQ []) with
  | false => rfl
  | true =>
   have hlen := jZ hq
   have hlen : (ai aa cQ []).length = 2 * xs.length := by simp only [aT] at hlen; omega
   have h9 := (afP xs (ai aa cQ [])).trans (abd hb hlen)
   rw [ak, ak]
   exact congrArg (dj (.slice af)) h9
 ·cases h'
noncomputable def afS : FnE := cU [(Y6), .slice af] (ao abe)
theorem Uq : bE 221 afS := bF Up
noncomputable def PR : AEx -> LSt -> Option (aq × LHp) := (aW 0 (bt fj bY [4, 8] (hlp fj bY) (cR (cR (cR (cR w7)))) (bA prog 0 f218.results.toList ah)))
noncomputable def KCi (n : Nat) : AEx -> LSt -> Option (aq × LHp) := (aW 2 (aW 1 (bt fj bY [4, 8] (hlp fj bY) (cR (cR (cR (cL (cL (cR (cL (cR (cR (cR w7)))))))))) (rB fj bY [4, 8] (hlp fj bY) rF n PR))))
theorem afT (xs : ag) (a : Int) (vs : cg) (j : Int) (ds : ag) (i : Int) (o : ag) (n : Nat) : KCi n (.exit 2) { fr := aw 6 [(1, AV.d (af).slice xs), (5, I a), (6, AV.os 0 0), (21, AV.d (.slice (Y3)) vs), (22, I (Int.ofNat vs.length)), (23, I j), (35, AV.d (af).slice ds), (36, I (Int.ofNat ds.length)), (37, I i), (38, B false)], hp := [(0, al.arr 3 (af) 0 false o)], nx := 1 } = lp fj bY rF n (pL xs a vs (i64.wrap (j + 1)) o) PR := by
 rw [← mI (ids := [4, 8])]
 kernel_rfl
def J6 (xs : ag) (a : Int) : Nat -> List Int -> List Int -> Option (ag)
 | _, [], o => some o
 | i, d :: r, o => bif (i : Int) == a then J6 xs a (i + 1) r (o.set i (i64.wrap (o.getD i 0 + d))) else bif d == xs.getD i 0 then J6 xs a (i + 1) r o else none
def coR (xs : ag) (a : Int) : cg -> List Int -> Option (ag)
 | [], o => some o
 | v :: vs, o => bif Int.ofNat (List.length v.2.2.1) == Int.ofNat xs.length then (J6 xs a 0 v.2.2.1 o).bind (coR xs a vs) else none
def coN (xs : ag) (a : Int) (s : Nat × ag) (d : Int) : Nx (Nat × ag) (aq × LHp) := bif (s.1 : Int) == a then .go (s.1 + 1, s.2.set s.1 (i64.wrap (s.2.getD s.1 0 + d))) else bif d == xs.getD s.1 0 then .go (s.1 + 1, s.2) else .stop (some (.panic 131 4, []))
theorem yY (xs : ag) (a : Int) (fin : List Int -> Option (aq × LHp)) : ∀ (ds : ag) (i : Nat) (o : ag), cm (coN xs a) (fun s => fin s.2) ds (i, o) = match J6 xs a i ds o with | some o' => fin o' | none => some (.panic 131 4, [])
 | [], i, o => rfl
 | d :: r, i, o => by
  have e : coN xs a (i, o) d = bif (i : Int) == a then .go (i + 1, o.set i (i64.wrap (o.getD i 0 + d))) else bif d == xs.getD i 0 then .go (i + 1, o) else .stop (some (.panic 131 4, [])) := rfl
  rw [cm, e, J6]
  cases (i : Int) == a with
  | true => exact yY xs a fin r (i + 1) _
  | false =>
   cases d == xs.getD i 0 with
   | true => exact yY xs a fin r (i + 1) _
   | false => rfl
theorem yZ {xs : ag} {a : Int} : ∀ {ds : ag} {i : Nat} {o o' : ag}, J6 xs a i ds o = some o' -> o'.length = o.length
 | [], i, o, o', h => by cases h; rfl
 | d :: r, i, o, o', h => by
  rw [J6] at h
  cases h1 : (i : Int) == a with
  | true =>
   rw [h1, ak] at h
   rw [yZ h, List.length_set]
  | false =>
   rw [h1, ax] at h
   cases h2 : d == xs.getD i 0 with
   | true => rw [h2, ak] at h; exact yZ h
   | false => rw [h2] at h; cases h
theorem abf {xs ds o : ag} {a : Int} {vs : cg} {j n : Nat} (hx : xs.length <= 2147483648) (hd0 : ds.length = xs.length) (ho : o.length = xs.length) (hw' : i64.wrap ((j : Int) + 1) = ((j + 1 : Nat) : Int)) :
  lp fj bY Cc fu (Cf xs a vs (j : Int) ds 0 o) (KCi n) = match J6 xs a 0 ds o with | some o' => lp fj bY rF n (pL xs a vs ((j + 1 : Nat) : Int) o') PR | none => some (.panic 131 4, []) := by
 have hm : maxLen = 9223372036854775807 := by decide
 refine (dD (xs := ds) (T := fun n' s => lp fj bY Cc n' s (KCi n)) (st := fun (i : Int) (s : Nat × ag) => Cf xs a vs (j : Int) ds i s.2) (f := coN xs a) (fin := fun (s : Nat × ag) => lp fj bY rF n (pL xs a vs ((j + 1 : Nat) : Int) s.2) PR) (fun (i : Nat) (s : Nat × ag) => s.1 = i /\ s.2.length = xs.length) (by omega) ?_ ?_ (a := (0, o)) ⟨rfl, ho⟩).trans (yY xs a (fun o' => lp fj bY rF n (pL xs a vs ((j + 1 : Nat) : Int) o') PR) ds 0 o)
 ·rintro i ⟨i', o⟩ d n' ⟨rfl, hI⟩ fq gx gi hw hd
  have hI : o.length = xs.length := hI
  have fq : i' < ds.length := fq
  have e : coN xs a (i', o) d = bif (i' : Int) == a then .go (i' + 1, o.set i' (i64.wrap (o.getD i' 0 + d))) else bif d == xs.getD i' 0 then .go (i' + 1, o) else .stop (some (.panic 131 4, [])) := rfl
  have hs := Wv xs a vs (j : Int) ds (i' : Int) o n' (KCi n)
  have go : idx o (i' : Int) = some (o.getD i' 0) := aK (by omega)
  have gx2 : idx xs (i' : Int) = some (xs.getD i' 0) := aK (by omega)
  have go2 : o[i']? = some (o.getD i' 0) := by rw [List.getD_eq_getElem?_getD, List.getElem?_eq_getElem (by omega)]; rfl
  have gs : fJ o i' (i64.wrap (o.getD i' 0 + d)) = some (o.set i' (i64.wrap (o.getD i' 0 + d))) := by unfold fJ; rw [show Nat.blt i' o.length = true from Nat.ble_eq_true_of_le (by omega)]; rfl
  rw [hd, ak, gi, aA, go, aA, Int.toNat_natCast, go2, aA, aA, gs, aA, gx2, aA, hw] at hs
  cases c1 : (i' : Int) == a with
  | true =>
   rw [c1, ak] at hs e
   exact .inl ⟨_, e, ⟨rfl, by show List.length (o.set i' _) = _; rw [List.length_set]; exact hI⟩, hs⟩
  | false =>
   rw [c1, ax] at hs e
   cases c2 : d == xs.getD i' 0 with
   | true =>
    rw [c2, ak] at e
    rw [c2, Bool.not_true, ax] at hs
    exact .inl ⟨_, e, ⟨rfl, hI⟩, hs⟩
   | false =>
    rw [c2, ax] at e
    rw [c2, Bool.not_false, ak] at hs
    exact .inr ⟨_, e, hs.trans (by kernel_rfl)⟩
 ·rintro ⟨i', o⟩ n' ⟨_, _⟩ hd
  show lp _ _ _ (n' + 1) (Cf xs a vs (j : Int) ds (ds.length : Int) o) _ = _
  rw [Wv, hd, ax]
  have hx := afT xs a vs (j : Int) ds (ds.length : Int) o n
  rw [hw'] at hx
  exact hx
theorem abg (xs ds o : ag) (a : Int) (vs : cg) (j : Int) (n : Nat) : hlp fj bY Cc (aq × LHp) (Cf xs a vs j ds 0 o) (KCi n) = lp fj bY Cc fu (Cf xs a vs j ds 0 o) (KCi n) := rfl
theorem abh {xs : ag} {a : Int} {vs : cg} (hx : xs.length <= 2147483648) (hl : vs.length <= 2147483648) : lp fj bY rF fu (pL xs a vs 0 xs) PR = yR 3 (coR xs a vs xs) := by
 have hm : maxLen = 9223372036854775807 := by decide
 have sc : ∀ (l : cg) (o : ag), cm (fun (o : ag) (v : (Y3).den) => bif Int.ofNat (List.length v.2.2.1) == Int.ofNat xs.length then (match J6 xs a 0 v.2.2.1 o with | some o' => Nx.go o' | none => Nx.stop (some (aq.panic 131 4, ([] : LHp)))) else Nx.stop (some (aq.panic 131 4, ([] : LHp)))) (fun o => yR 3 (some o)) l o = yR 3 (coR xs a l o) := by
  intro l
  induction l with
  | nil => intro o; rfl
  | cons v l ih =>
   intro o
   rw [cm, coR]
   cases Int.ofNat (List.length v.2.2.1) == Int.ofNat xs.length with
   | false => rfl
   | true =>
    rw [ak, ak]
    cases J6 xs a 0 v.2.2.1 o with
    | none => rfl
    | some o' => exact ih o'
 refine (dD (xs := vs) (T := fun n s => lp fj bY rF n s PR) (st := fun (i : Int) (o : ag) => pL xs a vs i o) (f := fun (o : ag) (v : (Y3).den) => bif Int.ofNat (List.length v.2.2.1) == Int.ofNat xs.length then (match J6 xs a 0 v.2.2.1 o with | some o' => Nx.go o' | none => Nx.stop (some (aq.panic 131 4, ([] : LHp)))) else Nx.stop (some (aq.panic 131 4, ([] : LHp)))) (fin := fun (o : ag) => yR 3 (some o)) (fun (_ : Nat) (o : ag) => o.length = xs.length) (by omega) ?_ ?_ (a := xs) rfl).trans (sc vs xs)
 ·intro i o v n hI hi gx gi hw hd
  have hs := Wu xs a vs (i : Int) o n PR
  rw [hd, ak, gi, aA] at hs
  cases c1 : Int.ofNat (List.length v.2.2.1) == Int.ofNat xs.length with
  | false =>
   rw [c1, Bool.not_false, ak] at hs
   refine .inr ⟨_, rfl, hs.trans ?_⟩
   kernel_rfl
  | true =>
   have hlen : List.length v.2.2.1 = xs.length := by
    have := eq_of_beq c1
    simp only [aT] at this
    omega
   rw [c1, Bool.not_true, ax] at hs
   have xu := (abg xs v.2.2.1 o a vs (i : Int) n).trans (abf (n := n) hx hlen hI hw)
   have rn := hs.trans xu
   simp only [ak]
   cases c2 : J6 xs a 0 v.2.2.1 o with
   | none =>
    rw [c2] at rn
    exact .inr ⟨_, rfl, rn⟩
   | some o' =>
    rw [c2] at rn
    exact .inl ⟨o', rfl, (yZ c2).trans hI, rn⟩
 ·intro o n hI hd
  rw [Wu, hd, ax]
  show _ = _
  kernel_rfl
theorem afV (xs : ag) (a : Int) (vs : cg) : hlp fj bY rF (aq × LHp) (pL xs a vs 0 xs) PR = lp fj bY rF fu (pL xs a vs 0 xs) PR := rfl
def Ur (aa : bk) (vs : cg) (xs : ag) : Option (ag) := bif vI (aX aa eX 0) (Int.ofNat xs.length) then coR xs (lD (aX aa eX 0) (Int.ofNat xs.length)) (vs.drop 1) xs else none
def afW (aa : bk) (vs : cg) (xs : ag) : Bool := (Ur aa vs xs).isSome
def afX (aa : bk) (vs : cg) (xs : ag) : ag := (Ur aa vs xs).getD []
def abi : List AV -> LHp -> Tq
 | [.d Y6 ((_, _, _, _, aa, _), vs, _), .d zS xs], [] => .br (aD aa) (.br (decide (xs.length <= 2147483648)) (.br (decide (1 <= vs.length /\ vs.length <= 2147483648)) (TX (afW aa vs xs) (afX aa vs xs)) .no) .no) .no
 | _, _ => .no
theorem Us : bE 218 (ao abi) := by
 have h1 := bS (d := 6) (l := [(4, [1, 5, 6, 21, 22, 23]), (8, [1, 5, 6, 21, 22, 23, 35, 36, 37])]) I7 func218 call218
 refine aO fun args hs ae aF h' => ?_
 unfold abi at h'
 split at h'
 ·rename_i op nm ins out aa _ vs _ xs
  obtain ⟨hs, h2⟩ := Tq.br_no h'
  obtain ⟨hb, h3⟩ := Tq.br_no h2
  obtain ⟨hv, h4⟩ := Tq.br_no h3
  have hb := aZ hb
  obtain ⟨v1, v2⟩ := aZ hv
  have hlen := bQ hs
  refine h1.okO (.slice af) (Eq.trans ?_ (show (uK (Ur aa vs xs)).run ah = some (ae, aF) from h4))
  refine Eq.trans (congrArg (dj _) (aaB op nm ins out aa vs xs)) ?_
  have ev : (if (0 : Int) <= 1 /\ 1 <= Int.ofNat vs.length /\ Int.ofNat vs.length <= Int.ofNat vs.length then some (List.drop 1 (List.take (Int.ofNat vs.length).toNat vs)) else none) = some (vs.drop 1) := by
   rw [if_pos (by simp only [aT]; omega)]
   rw [show (Int.ofNat vs.length).toNat = vs.length from rfl, List.take_of_length_le (Nat.le_refl _)]
  rw [aE (show aa.length <= 9223372036854775807 by omega), ak, ev, aA, aE hb, ak, ← jY 3]
  unfold Ur
  change dj _ (bif vI (aX aa eX 0) (Int.ofNat xs.length) then _ else _) = _
  cases hq : vI (aX aa eX 0) (Int.ofNat xs.length) with
  | false => rfl
  | true =>
   have h9 := (afV xs (lD (aX aa eX 0) (Int.ofNat xs.length)) (vs.drop 1)).trans (abh hb (by rw [List.length_drop]; omega))
   rw [ak, ak]
   exact congrArg (dj (.slice af)) h9
 ·cases h'
noncomputable def afY : FnE := cU [(Y6), .slice af] (ao abi)
theorem Ut : bE 218 afY := bF Us
def y4 (c : Int) (l : ag) : Tq := .br (c == 0) (dat (.slice af) l) (pnc 131 c)
def afZ (a r : Int) : Bool := decide (i64.wrap (0 - r) <= a) && decide (a <= r)
def abj (a r : Int) : Int := bif decide (a < 0) then i64.wrap (a + r) else a
def Uu (aa : bk) (xs : ag) : Option (ag) := bif afZ (aX aa eX 1) (Int.ofNat xs.length) then some [aR (xs.take (abj (aX aa eX 1) (Int.ofNat xs.length)).toNat), aR (xs.drop (abj (aX aa eX 1) (Int.ofNat xs.length)).toNat)] else none
def af0 (aa : bk) (xs : ag) : Bool := (Uu aa xs).isSome
def af1 (aa : bk) (xs : ag) : ag := (Uu aa xs).getD []
def abk : List AV -> LHp -> Tq
 | [.d Y6 ((_, _, _, _, aa, _), _, _), .d zS xs], [] => .br (aD aa) (.br (decide (xs.length <= 2147483648)) (TX (af0 aa xs) (af1 aa xs)) .no) .no
 | _, _ => .no
theorem Cn {xs : ag} {k : Int} (h0 : 0 <= k) (h1 : k <= (xs.length : Int)) : (if (0 : Int) <= 0 /\ 0 <= k /\ k <= Int.ofNat xs.length then some (List.drop 0 (List.take k.toNat xs)) else none) = some (xs.take k.toNat) := by
 rw [if_pos ⟨by omega, h0, by simp only [aT]; exact h1⟩]; rfl
theorem WW {xs : ag} {k : Int} (h0 : 0 <= k) (h1 : k <= (xs.length : Int)) : (if 0 <= k /\ k <= Int.ofNat xs.length /\ Int.ofNat xs.length <= Int.ofNat xs.length then some (List.drop k.toNat (List.take (Int.ofNat xs.length).toNat xs)) else none) = some (xs.drop k.toNat) := by
 rw [if_pos ⟨h0, by simp only [aT]; exact h1, Int.le_refl _⟩, show (Int.ofNat xs.length).toNat = xs.length from rfl, List.take_of_length_le (Nat.le_refl _)]
theorem Uv : bE 224 (ao abk) := by
 have h1 := bS (d := 6) (l := []) I9 func224 call224
 refine aO fun args hs ae aF h' => ?_
 unfold abk at h'
 split at h'
 ·rename_i op nm ins out aa _ vs _ xs
  obtain ⟨hs, h2⟩ := Tq.br_no h'
  obtain ⟨hb, h3⟩ := Tq.br_no h2
  have hb := aZ hb
  have hlen := bQ hs
  refine h1.okO (.slice af) (Eq.trans ?_ (show (uK (Uu aa xs)).run ah = some (ae, aF) from h3))
  refine Eq.trans (congrArg (dj _) (aaD op nm ins out aa vs xs)) ?_
  have es : (fR : aj) = eX := rfl
  rw [es, aE (show aa.length <= 9223372036854775807 by omega), ak, ← jY 3]
  unfold Uu afZ abj
  generalize hA : aX aa eX 1 = a
  cases c1 : decide (i64.wrap (0 - Int.ofNat xs.length) <= a) with
  | false => rfl
  | true =>
   cases c2 : decide (a <= Int.ofNat xs.length) with
   | false => rfl
   | true =>
    have d1 := aZ c1
    have d2 := aZ c2
    simp only [aT] at d1 d2
    rw [aJ (by omega) (by omega)] at d1
    have fin : ∀ k : Int, 0 <= k -> k <= (xs.length : Int) -> dj (.slice af) ((some (xs.take k.toNat)).bind fun v4 => bif decide (v4.length <= 9223372036854775807) then (some (xs.drop k.toNat)).bind fun v6 => (bif decide (v6.length <= 9223372036854775807) then some (aq.ret [AV.os 0 0], [(0, al.arr 3 (af) 0 false [aR v4, aR v6])]) else none) else none) = dj (.slice af) (yR 3 (some [aR (xs.take k.toNat), aR (xs.drop k.toNat)])) := fun k _ _ => by
     rw [aA, aE (show (xs.take k.toNat).length <= 9223372036854775807 by rw [List.length_take]; omega), ak, aA, aE (show (xs.drop k.toNat).length <= 9223372036854775807 by rw [List.length_drop]; omega)]
     rfl
    rw [ak, Bool.not_true, ax, Bool.and_self, ak]
    cases c3 : decide (a < 0) with
    | true =>
     have d3 := aZ c3
     have w : i64.wrap (a + Int.ofNat xs.length) = a + (xs.length : Int) := by simp only [aT]; exact aJ (by omega) (by omega)
     rw [ak, ak, w, Cn (by omega) (by omega), WW (by omega) (by omega)]
     exact fin _ (by omega) (by omega)
    | false =>
     have d3 := rq c3
     rw [ax, ax, Cn (by omega) (by omega), WW (by omega) (by omega)]
     exact fin _ (by omega) (by omega)
 ·cases h'
noncomputable def af2 : FnE := cU [(Y6), .slice af] (ao abk)
theorem Uw : bE 224 af2 := bF Uv
def jr (xs ys : ag) : ag := bif C7 xs ys then [] else En xs ys
def abl : List AV -> LHp -> Tq
 | [.d zS xs, .d zS ys], [] => .br (decide (xs.length <= 2147483648 /\ ys.length <= 2147483648)) (y4 (fC xs ys) (jr xs ys)) .no
 | _, _ => .no
theorem Ux : bE 148 (ao abl) := by
 have h1 : bE 148 (Ek (.slice af) (ao SN)) := sd Gk
 refine aO fun args hs ae aF h' => ?_
 unfold abl at h'
 split at h'
 ·rename_i xs ys
  obtain ⟨hb, h2⟩ := Tq.br_no h'
  refine h1.ok _ _ _ _ (Eq.trans ?_ h2)
  show (Eo xs ys).run _ = _
  unfold Eo y4 jr
  rw [hb]
  show (bif fC xs ys == 0 then _ else _) = (bif fC xs ys == 0 then _ else _)
  cases fC xs ys == 0 with
  | false => rfl
  | true =>
   rw [ak, ak]
   show (bif C7 xs ys then _ else _) = ay [.d (.slice af) (bif C7 xs ys then [] else En xs ys)]
   cases C7 xs ys <;> rfl
 ·cases h'
noncomputable def Uy : FnE := cU [.slice af, .slice af] (ao abl)
theorem y5 : bE 148 Uy := bF Ux
def abm : List AV -> LHp -> Tq
 | [.d zS xs, .d zS ys], [] => .br (decide (xs.length <= 2147483648 /\ ys.length <= 2147483648)) (.br (fC xs ys == 0) (.leaf (.ret [.os 0 0]) [(0, .arr 3 af 0 false (jr xs ys))]) (pnc 131 (fC xs ys))) .no
 | _, _ => .no
theorem Uz : bE 148 (ao abm) := by
 have h1 : bE 148 (Ns 3 af (ao SN)) := uJ Gk
 refine aO fun args hs ae aF h' => ?_
 unfold abm at h'
 split at h'
 ·rename_i xs ys
  obtain ⟨hb, h2⟩ := Tq.br_no h'
  refine h1.ok _ _ _ _ (Eq.trans ?_ h2)
  show (Eo xs ys).run _ = _
  unfold Eo jr
  rw [hb]
  show (bif fC xs ys == 0 then _ else _) = (bif fC xs ys == 0 then _ else _)
  cases fC xs ys == 0 with
  | false => rfl
  | true =>
   rw [ak, ak]
   show (bif C7 xs ys then _ else _) = some (aq.ret [.os 0 0], [(0, al.arr 3 af 0 false (bif C7 xs ys then [] else En xs ys))])
   cases C7 xs ys <;> rfl
 ·cases h'
noncomputable def af3 : Env := IJ.add 148 (ao abm)
theorem Jo : af3.Good := dY.add Uz
theorem Oe (xs ys : ag) : aC af3 f151 6 [] [.d (.slice af) xs, .d (.slice af) ys] [] ah = bif decide (Int.ofNat xs.length >= 2) then bif !decide (Int.ofNat ys.length >= 2) then aV else (idx xs (i64.wrap (i64.wrap (Int.ofNat xs.length - 2) + 1))).bind fun v2 => (idx ys (i64.wrap (Int.ofNat ys.length - 2))).bind fun v3 => bif !v2 == v3 then aV else (if (0 : Int) <= 0 /\ 0 <= i64.wrap (Int.ofNat xs.length - 2) /\ i64.wrap (Int.ofNat xs.length - 2) <= Int.ofNat xs.length then some (List.drop 0 (List.take (i64.wrap (Int.ofNat xs.length - 2)).toNat xs)) else none).bind fun v5 => (if (0 : Int) <= 0 /\ 0 <= i64.wrap (Int.ofNat ys.length - 2) /\ i64.wrap (Int.ofNat ys.length - 2) <= Int.ofNat ys.length then some (List.drop 0 (List.take (i64.wrap (Int.ofNat ys.length - 2)).toNat ys)) else none).bind fun v6 => bif decide (v5.length <= 2147483648 /\ v6.length <= 2147483648) then bif fC v5 v6 == 0 then (idx xs (i64.wrap (Int.ofNat xs.length - 2))).bind fun v9 => (idx ys (i64.wrap (i64.wrap (Int.ofNat ys.length - 2) + 1))).bind fun v10 => (app (jr v5 v6) [v9, v10]).bind fun v11 => some (aq.ret [AV.os 0 0], [(0, al.arr 3 (af) 0 false v11)]) else (idx xs (i64.wrap (Int.ofNat xs.length - 2))).bind fun v9 => (idx ys (i64.wrap (i64.wrap (Int.ofNat ys.length - 2) + 1))).bind fun v10 => some (aq.panic 131 (fC v5 v6), []) else none else aV := by kernel_rfl
noncomputable def af4 : Env := IJ.add 59 (ao uq)
theorem Jp : af4.Good := dY.add jm
theorem abn (op nm : aj) (ins : List (aj)) (out : aj) (aa : bk) (vs : cg) (name : aj) (xs : ag) : aC af4 f213 6 [] [gu (op, nm, ins, out, aa, ()) vs, .d .str name, .d (.slice af) xs] [] ah = bif decide (aa.length <= 9223372036854775807) then bif Int.ofNat xs.length == 2 then bif aX aa name 0 == 0 then bif aX aa name 0 == 1 then (idx xs 1).bind fun v4 => (idx xs 0).bind fun v5 => some (aq.ret [AV.os 0 0], [(0, al.arr 3 (af) 0 false [v4, v5])]) else ay [AV.d (af).slice xs] else bif !aX aa name 0 == 1 then aV else bif aX aa name 0 == 1 then (idx xs 1).bind fun v5 => (idx xs 0).bind fun v6 => some (aq.ret [AV.os 0 0], [(0, al.arr 3 (af) 0 false [v5, v6])]) else ay [AV.d (af).slice xs] else aV else none := by kernel_rfl
def y6 (xs ys : ag) : Int := bif decide (2 <= xs.length) && decide (2 <= ys.length) then (bif xs.getD (xs.length - 1) 0 == ys.getD (ys.length - 2) 0 then fC (xs.take (xs.length - 2)) (ys.take (ys.length - 2)) else 4) else 4
def pO (xs ys : ag) : ag := jr (xs.take (xs.length - 2)) (ys.take (ys.length - 2)) ++ [xs.getD (xs.length - 2) 0, ys.getD (ys.length - 1) 0]
theorem uO {xs ys : ag} (h : fC xs ys = 0) : (jr xs ys).length <= 6 := by
 unfold fC at h
 unfold jr
 cases h1 : aB xs != 0 with
 | true =>
  rw [h1, ak] at h
  rw [h] at h1
  cases h1
 | false =>
  rw [h1, ax] at h
  cases h2 : aB ys != 0 with
  | true =>
   rw [h2, ak] at h
   rw [h] at h2
   cases h2
  | false =>
   rw [h2, ax] at h
   cases h3 : C7 xs ys with
   | true => simp
   | false =>
    rw [h3, ax] at h
    cases h4 : bcN xs ys with
    | true => rw [h4, ak] at h; cases h
    | false =>
     rw [h4, ax] at h
     exact (fL h).2.1
def abo : List AV -> LHp -> Tq
 | [.d zS xs, .d zS ys], [] => .br (decide (xs.length <= 2147483648 /\ ys.length <= 2147483648)) (y4 (y6 xs ys) (pO xs ys)) .no
 | _, _ => .no
theorem UA : bE 151 (ao abo) := by
 have h1 := bS (d := 6) (l := []) Jo func151 call151
 refine aO fun args hs ae aF h' => ?_
 unfold abo at h'
 split at h'
 ·rename_i xs ys
  obtain ⟨hb, h2⟩ := Tq.br_no h'
  obtain ⟨b1, b2⟩ := aZ hb
  have b1 : xs.length <= 2147483648 := b1
  have b2 : ys.length <= 2147483648 := b2
  refine h1.okO (.slice af) (Eq.trans ?_ h2)
  refine Eq.trans (congrArg (dj _) (Oe xs ys)) ?_
  unfold y4 y6
  by_cases c1 : 2 <= xs.length
  ·by_cases c2 : 2 <= ys.length
   ·have d1 : decide (Int.ofNat xs.length >= 2) = true := aE (by simp only [aT]; omega)
    have d2 : decide (Int.ofNat ys.length >= 2) = true := aE (by simp only [aT]; omega)
    have w1 : i64.wrap (Int.ofNat xs.length - 2) = ((xs.length - 2 : Nat) : Int) := by simp only [aT]; rw [aJ (by omega) (by omega)]; omega
    have w2 : i64.wrap (Int.ofNat ys.length - 2) = ((ys.length - 2 : Nat) : Int) := by simp only [aT]; rw [aJ (by omega) (by omega)]; omega
    have w3 : i64.wrap (((xs.length - 2 : Nat) : Int) + 1) = ((xs.length - 1 : Nat) : Int) := by rw [aJ (by omega) (by omega)]; omega
    have w4 : i64.wrap (((ys.length - 2 : Nat) : Int) + 1) = ((ys.length - 1 : Nat) : Int) := by rw [aJ (by omega) (by omega)]; omega
    have g1 : idx xs ((xs.length - 1 : Nat) : Int) = some (xs.getD (xs.length - 1) 0) := aK (by omega)
    have g2 : idx ys ((ys.length - 2 : Nat) : Int) = some (ys.getD (ys.length - 2) 0) := aK (by omega)
    have g3 : idx xs ((xs.length - 2 : Nat) : Int) = some (xs.getD (xs.length - 2) 0) := aK (by omega)
    have g4 : idx ys ((ys.length - 1 : Nat) : Int) = some (ys.getD (ys.length - 1) 0) := aK (by omega)
    rw [d1, ak, d2, Bool.not_true, ax, w1, w2, w3, w4, g1, aA, g2, aA, aE c1, aE c2, Bool.and_self, ak]
    cases c3 : xs.getD (xs.length - 1) 0 == ys.getD (ys.length - 2) 0 with
    | false => rfl
    | true =>
     rw [Bool.not_true, ax, ak, Cn (by omega) (by omega), aA, Cn (by omega) (by omega), aA, Int.toNat_natCast, Int.toNat_natCast, aE (show (xs.take (xs.length - 2)).length <= 2147483648 /\ (ys.take (ys.length - 2)).length <= 2147483648 by rw [List.length_take, List.length_take]; omega), ak]
     cases c4 : fC (xs.take (xs.length - 2)) (ys.take (ys.length - 2)) == 0 with
     | false =>
      rw [ax, g3, aA, g4, aA]
      rfl
     | true =>
      have hl := uO (eq_of_beq c4)
      rw [ak, g3, aA, g4, aA, fB (show (jr (xs.take (xs.length - 2)) (ys.take (ys.length - 2))).length + [xs.getD (xs.length - 2) 0, ys.getD (ys.length - 1) 0].length <= lim by rw [show lim = 4294967296 from rfl]; simp only [List.length_cons, List.length_nil]; omega), aA]
      exact jY 3 (some (pO xs ys))
   ·have d1 : decide (Int.ofNat xs.length >= 2) = true := aE (by simp only [aT]; omega)
    have d2 : decide (Int.ofNat ys.length >= 2) = false := de (by simp only [aT]; omega)
    rw [d1, d2, de c2, Bool.and_false]
    rfl
  ·have d1 : decide (Int.ofNat xs.length >= 2) = false := de (by simp only [aT]; omega)
   rw [d1, de c1, Bool.false_and]
   rfl
 ·cases h'
noncomputable def abp : FnE := cU [.slice af, .slice af] (ao abo)
theorem GU : bE 151 abp := bF UA
def Jq (aa : bk) (name : aj) (xs : ag) : Option (ag) := bif Int.ofNat xs.length == 2 && (aX aa name 0 == 0 || aX aa name 0 == 1) then some (bif aX aa name 0 == 1 then [xs.getD 1 0, xs.getD 0 0] else xs) else none
def y8 (aa : bk) (name : aj) (xs : ag) : Bool := (Jq aa name xs).isSome
def dz (aa : bk) (name : aj) (xs : ag) : ag := (Jq aa name xs).getD []
def abq : List AV -> LHp -> Tq
 | [.d Y6 ((_, _, _, _, aa, _), _, _), .d .str name, .d zS xs], [] => .br (aD aa) (TX (y8 aa name xs) (dz aa name xs)) .no
 | _, _ => .no
theorem UB : bE 213 (ao abq) := by
 have h1 := bS (d := 6) (l := []) Jp func213 call213
 refine aO fun args hs ae aF h' => ?_
 unfold abq at h'
 split at h'
 ·rename_i op nm ins out aa _ vs _ name xs
  obtain ⟨hs, h2⟩ := Tq.br_no h'
  have hlen := bQ hs
  refine h1.okO (.slice af) (Eq.trans ?_ (show (uK (Jq aa name xs)).run ah = some (ae, aF) from h2))
  refine Eq.trans (congrArg (dj _) (abn op nm ins out aa vs name xs)) ?_
  rw [aE (show aa.length <= 9223372036854775807 by omega), ak]
  unfold Jq
  cases c1 : Int.ofNat xs.length == 2 with
  | false => rfl
  | true =>
   have hl : xs.length = 2 := by
    have := eq_of_beq c1
    simp only [aT] at this
    omega
   have g0 : idx xs 0 = some (xs.getD 0 0) := aK (i := 0) (by omega)
   have g1 : idx xs 1 = some (xs.getD 1 0) := aK (i := 1) (by omega)
   rw [ak, g1, aA, g0, aA]
   cases aX aa name 0 == 0 <;> cases aX aa name 0 == 1 <;> rfl
 ·cases h'
noncomputable def af5 : FnE := cU [(Y6), .str, .slice af] (ao abq)
theorem UC : bE 213 af5 := bF UB
noncomputable def af6 : Env := (((IJ.add 213 af5).add 151 abp).add 148 Uy).add 77 (cU [.slice af, .slice af] (ao NV))
theorem Jr : af6.Good := (((dY.add UC).add GU).add y5).add (bF yT)
theorem abr (op nm : aj) (ins : List (aj)) (out : aj) (aa : bk) (vs : cg) : aC af6 f152 6 [] [gu (op, nm, ins, out, aa, ()) vs] [] ah = (idx vs 0).bind fun v0 => bif aD aa then bif y8 aa pj v0.2.2.1 then (idx vs 1).bind fun v3 => bif aD aa then bif y8 aa po v3.2.2.1 then bif decide ((dz aa pj v0.2.2.1).length <= 2147483648 /\ (dz aa po v3.2.2.1).length <= 2147483648) then bif y6 (dz aa pj v0.2.2.1) (dz aa po v3.2.2.1) == 0 then bif Int.ofNat vs.length == 3 then (idx vs 2).bind fun v9 => bif decide (List.length v9.2.2.1 <= 2147483648 /\ (pO (dz aa pj v0.2.2.1) (dz aa po v3.2.2.1)).length <= 2147483648) then bif fC v9.2.2.1 (pO (dz aa pj v0.2.2.1) (dz aa po v3.2.2.1)) == 0 then bif decide ((jr v9.2.2.1 (pO (dz aa pj v0.2.2.1) (dz aa po v3.2.2.1))).length <= 9223372036854775807) then bif !jr v9.2.2.1 (pO (dz aa pj v0.2.2.1) (dz aa po v3.2.2.1)) == pO (dz aa pj v0.2.2.1) (dz aa po v3.2.2.1) then aV else ay [AV.d (af).slice (pO (dz aa pj v0.2.2.1) (dz aa po v3.2.2.1))] else none else some (aq.panic 131 (fC v9.2.2.1 (pO (dz aa pj v0.2.2.1) (dz aa po v3.2.2.1))), []) else none else ay [AV.d (af).slice (pO (dz aa pj v0.2.2.1) (dz aa po v3.2.2.1))] else some (aq.panic 131 (y6 (dz aa pj v0.2.2.1) (dz aa po v3.2.2.1)), []) else none else aV else none else (idx vs 1).bind fun v3 => aV else none := by kernel_rfl
theorem rv0 (u : Unit) : aC Ei f255 5 [(1, [0, 2, 3])] [.os 0 0] [(0, .arr 2 af 0 false [])] ah = some (aq.ret [], [(0, al.arr 2 (af) 0 false [])]) := by kernel_rfl
theorem rv1 (a : Int) : aC Ei f255 5 [(1, [0, 2, 3])] [.os 0 0] [(0, .arr 2 af 0 false [a])] ah = some (aq.ret [], [(0, al.arr 2 (af) 0 false [a])]) := by kernel_rfl
theorem rv2 (a b : Int) : aC Ei f255 5 [(1, [0, 2, 3])] [.os 0 0] [(0, .arr 2 af 0 false [a, b])] ah = some (aq.ret [], [(0, al.arr 2 (af) 0 false [b, a])]) := by kernel_rfl
theorem rv3 (a b c : Int) : aC Ei f255 5 [(1, [0, 2, 3])] [.os 0 0] [(0, .arr 2 af 0 false [a, b, c])] ah = some (aq.ret [], [(0, al.arr 2 (af) 0 false [c, b, a])]) := by kernel_rfl
theorem rv4 (a b c d : Int) : aC Ei f255 5 [(1, [0, 2, 3])] [.os 0 0] [(0, .arr 2 af 0 false [a, b, c, d])] ah = some (aq.ret [], [(0, al.arr 2 (af) 0 false [d, c, b, a])]) := by kernel_rfl
theorem rv5 (a b c d e : Int) : aC Ei f255 5 [(1, [0, 2, 3])] [.os 0 0] [(0, .arr 2 af 0 false [a, b, c, d, e])] ah = some (aq.ret [], [(0, al.arr 2 (af) 0 false [e, d, c, b, a])]) := by kernel_rfl
theorem rv6 (a b c d e f : Int) : aC Ei f255 5 [(1, [0, 2, 3])] [.os 0 0] [(0, .arr 2 af 0 false [a, b, c, d, e, f])] ah = some (aq.ret [], [(0, al.arr 2 (af) 0 false [f, e, d, c, b, a])]) := by kernel_rfl
def fm : aj := pj
def fo : aj := po
def bW (vs : cg) (i : Nat) : ag := match vs[i]? with
 | some v => v.2.2.1
 | none => []
theorem oG {α : Type} {vs : cg} {i : Nat} (h : i < vs.length) (f : (Y3).den -> Option α) : ∃ v, vs[i]? = some v /\ bW vs i = v.2.2.1 /\ (idx vs ((i : Nat) : Int)).bind f = f v := by
 refine ⟨vs[i], List.getElem?_eq_getElem h, by unfold bW; rw [List.getElem?_eq_getElem h], ?_⟩
 unfold idx
 rw [if_pos (by omega), Int.toNat_natCast, List.getElem?_eq_getElem h]
 rfl
def uP (vs : cg) : Bool := vs.all fun v => decide (List.length v.2.2.1 <= 2147483648)
theorem qF {vs : cg} (h : uP vs = true) (i : Nat) : (bW vs i).length <= 2147483648 := by
 unfold bW
 cases hv : vs[i]? with
 | none => simp
 | some v => exact aZ (List.all_eq_true.1 h v (List.mem_of_getElem? hv))
def Js (aa : bk) (vs : cg) : Int := y6 (dz aa fm (bW vs 0)) (dz aa fo (bW vs 1))
def pP (aa : bk) (vs : cg) : ag := pO (dz aa fm (bW vs 0)) (dz aa fo (bW vs 1))
def UD (aa : bk) (vs : cg) : Int := bif y8 aa fm (bW vs 0) then (bif y8 aa fo (bW vs 1) then (bif Js aa vs == 0 then (bif Int.ofNat vs.length == 3 then (bif fC (bW vs 2) (pP aa vs) == 0 then (bif jr (bW vs 2) (pP aa vs) == pP aa vs then 0 else 4) else fC (bW vs 2) (pP aa vs)) else 0) else Js aa vs) else 4) else 4
def abt : List AV -> LHp -> Tq
 | [.d Y6 ((_, _, _, _, aa, _), vs, _)], [] => .br (aD aa) (.br (decide (2 <= vs.length)) (.br (uP vs) (y4 (UD aa vs) (pP aa vs)) .no) .no) .no
 | _, _ => .no
theorem Co {aa : bk} {name : aj} {xs : ag} (h : y8 aa name xs = true) : (dz aa name xs).length = 2 := by
 unfold y8 Jq at h
 unfold dz Jq
 cases c : Int.ofNat xs.length == 2 && (aX aa name 0 == 0 || aX aa name 0 == 1) with
 | false => rw [c] at h; cases h
 | true =>
  rw [bg] at c
  have := eq_of_beq c.1
  simp only [aT] at this
  rw [ak]
  cases aX aa name 0 == 1 with
  | true => rfl
  | false => show xs.length = 2; omega
theorem Cq (c : Int) (l : ag) : (y4 c l).run ah = bif c == 0 then (some (.ret [.d (.slice af) l], []) : Option (aq × LHp)) else some (.panic 131 c, []) := rfl
theorem UE : bE 152 (ao abt) := by
 have h1 := bS (d := 6) (l := []) Jr func152 call152
 refine aO fun args hs ae aF h' => ?_
 unfold abt at h'
 split at h'
 ·rename_i op nm ins out aa _ vs _
  obtain ⟨hs, h2⟩ := Tq.br_no h'
  obtain ⟨hv, h3⟩ := Tq.br_no h2
  obtain ⟨hw, h4⟩ := Tq.br_no h3
  have hv : 2 <= vs.length := aZ hv
  have b0 := qF hw 0
  have b1 := qF hw 1
  have b2 := qF hw 2
  refine h1.okC ((abr op nm ins out aa vs).trans (Eq.trans ?_ h4))
  rw [Cq]
  obtain ⟨v0, x0, y0, z0⟩ := oG (α := aq × LHp) (vs := vs) (i := 0) (by omega) (fun v => none)
  obtain ⟨v1, x1, y1, z1⟩ := oG (α := aq × LHp) (vs := vs) (i := 1) (by omega) (fun v => none)
  have i0 : idx vs 0 = some v0 := by unfold idx; rw [if_pos (by omega)]; exact x0
  have i1 : idx vs 1 = some v1 := by unfold idx; rw [if_pos (by omega)]; exact x1
  have ea : (pj : aj) = fm := rfl
  have eb : (po : aj) = fo := rfl
  rw [i0, aA, i1, aA, hs, ak, ea, eb, ← y0, ← y1]
  unfold UD
  cases c1 : y8 aa fm (bW vs 0) with
  | false => rfl
  | true =>
   rw [ak, ak, ak]
   cases c2 : y8 aa fo (bW vs 1) with
   | false => rfl
   | true =>
    have l1 := Co c1
    have l2 := Co c2
    rw [ak, ak, aE (show (dz aa fm (bW vs 0)).length <= 2147483648 /\ (dz aa fo (bW vs 1)).length <= 2147483648 by omega), ak]
    have ep : y6 (dz aa fm (bW vs 0)) (dz aa fo (bW vs 1)) = Js aa vs := rfl
    have el : pO (dz aa fm (bW vs 0)) (dz aa fo (bW vs 1)) = pP aa vs := rfl
    have hel : (pP aa vs).length <= 2147483648 \/ (Js aa vs == 0) = false := by
     cases hq : Js aa vs == 0 with
     | false => exact .inr rfl
     | true =>
      left
      rw [← el]
      unfold pO
      rw [List.length_append]
      have : (jr ((dz aa fm (bW vs 0)).take ((dz aa fm (bW vs 0)).length - 2)) ((dz aa fo (bW vs 1)).take ((dz aa fo (bW vs 1)).length - 2))).length <= 6 := by
       refine uO ?_
       have Kc := eq_of_beq hq
       rw [← ep] at Kc
       unfold y6 at Kc
       rw [aE (show 2 <= (dz aa fm (bW vs 0)).length by omega), aE (show 2 <= (dz aa fo (bW vs 1)).length by omega), Bool.and_self, ak] at Kc
       revert Kc
       cases (dz aa fm (bW vs 0)).getD ((dz aa fm (bW vs 0)).length - 1) 0 == (dz aa fo (bW vs 1)).getD ((dz aa fo (bW vs 1)).length - 2) 0 with
       | true => exact id
       | false => intro h; cases h
      simp only [List.length_cons, List.length_nil]
      omega
    rw [ep, el]
    cases c3 : Js aa vs == 0 with
    | false => rw [ax, ax, c3]; rfl
    | true =>
     rw [c3] at hel
     have hel : (pP aa vs).length <= 2147483648 := hel.resolve_right (by decide)
     rw [ak, ak]
     cases c4 : Int.ofNat vs.length == 3 with
     | false => rfl
     | true =>
      have hv3 : 2 < vs.length := by
       have := eq_of_beq c4
       simp only [aT] at this
       omega
      obtain ⟨v2, x2, y2, z2⟩ := oG (α := aq × LHp) (vs := vs) (i := 2) hv3 (fun v => none)
      have i2 : idx vs 2 = some v2 := by unfold idx; rw [if_pos (by omega)]; exact x2
      rw [ak, ak, i2, aA, ← y2, aE (show (bW vs 2).length <= 2147483648 /\ (pP aa vs).length <= 2147483648 from ⟨b2, hel⟩), ak]
      cases c5 : fC (bW vs 2) (pP aa vs) == 0 with
      | false => rw [ax, ax, c5]; rfl
      | true =>
       have h6 := uO (eq_of_beq c5)
       rw [ak, ak, aE (show (jr (bW vs 2) (pP aa vs)).length <= 9223372036854775807 by omega), ak]
       cases jr (bW vs 2) (pP aa vs) == pP aa vs <;> rfl
 ·cases h'
noncomputable def af7 : FnE := cU [(Y6)] (ao abt)
theorem UF : bE 152 af7 := bF UE
def abu : List AV -> LHp -> Tq
 | [.os 0 0], [(0, .arr 2 zI 0 false xs)] => .br (decide (xs.length <= 6)) (.leaf (.ret []) [(0, .arr 2 af 0 false xs.reverse)]) .no
 | _, _ => .no
theorem UG : bE 255 (ao abu) := by
 have h1 := bS (d := 5) (l := [(1, [0, 2, 3])]) k9 func255 call255
 refine aO fun args hs ae aF h' => ?_
 unfold abu at h'
 split at h'
 ·rename_i xs
  obtain ⟨hb, h2⟩ := Tq.br_no h'
  have hb : List.length xs <= 6 := aZ hb
  match xs, hb, h2 with
  | [], _, h2 => exact h1.okC ((rv0 ()).trans h2)
  | [a], _, h2 => exact h1.okC ((rv1 a).trans h2)
  | [a, b], _, h2 => exact h1.okC ((rv2 a b).trans h2)
  | [a, b, c], _, h2 => exact h1.okC ((rv3 a b c).trans h2)
  | [a, b, c, d], _, h2 => exact h1.okC ((rv4 a b c d).trans h2)
  | [a, b, c, d, e], _, h2 => exact h1.okC ((rv5 a b c d e).trans h2)
  | [a, b, c, d, e, f], _, h2 => exact h1.okC ((rv6 a b c d e f).trans h2)
  | _ :: _ :: _ :: _ :: _ :: _ :: _ :: _, hb, _ => simp only [List.length_cons] at hb; omega
 ·cases h'
noncomputable def nJ : Env := (((Ei.add 210 (ao aaE)).add 255 (ao abu)).add 215 TP).add 212 (ao TN)
theorem Jt : nJ.Good := (((k9.add TV).add UG).add yP).add GG
theorem abv (op nm : aj) (ins : List (aj)) (out : aj) (aa : bk) (vs : cg) (xs : ag) : aC nJ f217 6 [(6, [1, 6, 7, 24, 25, 26])] [gu (op, nm, ins, out, aa, ()) vs, .d (.slice af) xs] [] ah = bif decide (0 <= Int.ofNat xs.length /\ Int.ofNat xs.length <= 2147483648) then bif decide ((jy (Int.ofNat xs.length).toNat).length <= 6) then bif aD aa then bif decide ((jy (Int.ofNat xs.length).toNat).reverse.length <= 2147483648) then bif cy (Int.ofNat xs.length) 0 (i64.wrap (Int.ofNat xs.length - 1)) (ai aa IA (jy (Int.ofNat xs.length).toNat).reverse) then (hlp nJ fV) yO _ { fr := aw 6 [(1, AV.d (af).slice xs), (6, AV.d (af).slice (ai aa IA (jy (Int.ofNat xs.length).toNat).reverse)), (7, AV.nils), (24, AV.d (af).slice (ai aa IA (jy (Int.ofNat xs.length).toNat).reverse)), (25, I (Int.ofNat (ai aa IA (jy (Int.ofNat xs.length).toNat).reverse).length)), (26, I 0)], hp := [], nx := 0 } (aW 0 (bt nJ fV [6] (hlp nJ fV) (cR (cR (cR (cR (cR (cR Ny)))))) (bA prog 0 f217.results.toList ah))) else aV else none else none else none else none := (bI [6] fV rfl).trans (by obtain ⟨hl, h⟩ := bw nJ fV; rw [h]; kernel_rfl)
noncomputable def KTp : AEx -> LSt -> Option (aq × LHp) := (aW 0 (bt nJ fV [6] (hlp nJ fV) (cR (cR (cR (cR (cR (cR Ny)))))) (bA prog 0 f217.results.toList ah)))
def xc (xs l : ag) (i : Int) : LSt := { fr := aw 6 [(1, .d (.slice af) xs), (6, .d (.slice af) l), (7, AV.nils), (24, .d (.slice af) l), (25, I (Int.ofNat l.length)), (26, I i)], hp := [], nx := 0 }
def Cr (o xs l : ag) (i : Int) : LSt := { fr := aw 6 [(1, .d (.slice af) xs), (6, .d (.slice af) l), (7, AV.os 0 0), (24, .d (.slice af) l), (25, I (Int.ofNat l.length)), (26, I i)], hp := [(0, .arr 3 af 0 false o)], nx := 1 }
theorem Of (xs l : ag) (i : Int) (n : Nat) {R : Type} (k : AEx -> LSt -> Option R) : lp nJ fV yO (n + 1) (xc xs l i) k = bif decide (i < Int.ofNat l.length) then (idx l i).bind fun v1 => (if (0 : Int) <= 0 /\ 0 <= i /\ i <= Int.ofNat l.length then some (List.drop 0 (List.take i.toNat l)) else none).bind fun v2 => bif decide (v2.length <= 9223372036854775807) then bif !!jq v2 v1 then k (AEx.panic 131 4) { fr := aw 6 [(1, AV.d (af).slice xs), (6, AV.d (af).slice l), (7, AV.nils), (8, I i), (9, I v1), (24, AV.d (af).slice l), (25, I (Int.ofNat l.length)), (26, I i), (27, B true), (28, I i), (29, AV.ip (af) v1), (30, I v1), (31, AV.d (af).slice l), (32, I i), (33, AV.d (af).slice v2), (34, I v1), (35, B (jq v2 v1)), (36, B !jq v2 v1)], hp := [], nx := 0 } else (idx xs v1).bind fun v5 => lp nJ fV yO n (Cr [v5] xs l (i64.wrap (i + 1))) k else none else k (AEx.exit 0) { fr := aw 6 [(1, AV.d (af).slice xs), (6, AV.d (af).slice l), (7, AV.nils), (24, AV.d (af).slice l), (25, I (Int.ofNat l.length)), (26, I i), (27, B false)], hp := [], nx := 0 } := by kernel_rfl
theorem Og (v : Int) (o xs l : ag) (i : Int) (n : Nat) {R : Type} (k : AEx -> LSt -> Option R) : lp nJ fV yO (n + 1) (Cr (v :: o) xs l i) k = bif decide (i < Int.ofNat l.length) then (idx l i).bind fun v1 => (if (0 : Int) <= 0 /\ 0 <= i /\ i <= Int.ofNat l.length then some (List.drop 0 (List.take i.toNat l)) else none).bind fun v2 => bif decide (v2.length <= 9223372036854775807) then bif !!jq v2 v1 then k (AEx.panic 131 4) { fr := aw 6 [(1, AV.d (af).slice xs), (6, AV.d (af).slice l), (7, AV.os 0 0), (8, I i), (9, I v1), (24, AV.d (af).slice l), (25, I (Int.ofNat l.length)), (26, I i), (27, B true), (28, I i), (29, AV.ip (af) v1), (30, I v1), (31, AV.d (af).slice l), (32, I i), (33, AV.d (af).slice v2), (34, I v1), (35, B (jq v2 v1)), (36, B !jq v2 v1)], hp := [(0, al.arr 3 (af) 0 false (v :: o))], nx := 1 } else (idx xs v1).bind fun v5 => (app (v :: o) [v5]).bind fun v6 => lp nJ fV yO n (Cr v6 xs l (i64.wrap (i + 1))) k else none else k (AEx.exit 0) { fr := aw 6 [(1, AV.d (af).slice xs), (6, AV.d (af).slice l), (7, AV.os 0 0), (24, AV.d (af).slice l), (25, I (Int.ofNat l.length)), (26, I i), (27, B false)], hp := [(0, al.arr 3 (af) 0 false (v :: o))], nx := 1 } := by kernel_rfl
def Ju : List Int -> List Int -> Bool
 | _, [] => true
 | pre, p :: r => !jq pre p && Ju (pre ++ [p]) r
def tpN (xs : ag) (s : ag × ag) (p : Int) : Nx (ag × ag) (aq × LHp) := bif !jq s.1 p then .go (s.1 ++ [p], s.2 ++ [xs.getD p.toNat 0]) else .stop (some (.panic 131 4, []))
def aiB (xs l : ag) (i : Int) (s : ag × ag) : LSt := match s.2 with
 | [] => xc xs l i
 | v :: o => Cr (v :: o) xs l i
theorem GV (xs : ag) : ∀ (l pre o : ag), cm (tpN xs) (fun s => gW 3 s.2) l (pre, o) = bif Ju pre l then gW 3 (o ++ l.map fun p => xs.getD p.toNat 0) else some (.panic 131 4, [])
 | [], pre, o => by rw [cm, Ju, List.map_nil, List.append_nil]; rfl
 | p :: l, pre, o => by
  have e : tpN xs (pre, o) p = bif !jq pre p then .go (pre ++ [p], o ++ [xs.getD p.toNat 0]) else .stop (some (.panic 131 4, [])) := rfl
  rw [cm, e, Ju]
  cases jq pre p with
  | true => rfl
  | false =>
   show cm (tpN xs) _ l _ = _
   rw [GV xs l, List.append_assoc]
   rfl
theorem abw {xs l : ag} (hx : xs.length <= 2147483648) (hl : l.length <= 2147483648) (hp : ∀ p ∈ l, 0 <= p /\ p < (xs.length : Int)) : lp nJ fV yO fu (xc xs l 0) KTp = bif Ju [] l then gW 3 (l.map fun p => xs.getD p.toNat 0) else some (.panic 131 4, []) := by
 have hm : maxLen = 9223372036854775807 := by decide
 refine (dD (xs := l) (T := fun n s => lp nJ fV yO n s KTp) (st := fun (i : Int) (s : ag × ag) => aiB xs l i s) (f := tpN xs) (fin := fun (s : ag × ag) => gW 3 s.2) (fun (i : Nat) (s : ag × ag) => s.1 = l.take i /\ s.2.length = i) (by omega) ?_ ?_ (a := ([], [])) ⟨rfl, rfl⟩).trans (GV xs l [] [])
 ·rintro i ⟨pre, o⟩ p n ⟨hI, hI2⟩ hi gx gi hw hd
  have hI : pre = l.take i := hI
  have hI2 : o.length = i := hI2
  subst hI
  obtain ⟨p0, p1⟩ := hp p (List.mem_of_getElem? gx)
  have gp : idx xs p = some (xs.getD p.toNat 0) := yQ p0 p1
  have et : l.take (i + 1) = l.take i ++ [p] := by
   rw [List.getElem?_eq_getElem hi] at gx
   rw [← Option.some.inj gx]
   exact (List.take_append_getElem hi).symm
  have e : tpN xs (l.take i, o) p = bif !jq (l.take i) p then .go (l.take i ++ [p], o ++ [xs.getD p.toNat 0]) else .stop (some (.panic 131 4, [])) := rfl
  have hll : (l.take i).length <= 9223372036854775807 := by rw [List.length_take]; omega
  have Kb := Cn (xs := l) (k := (i : Int)) (by omega) (by omega)
  rw [Int.toNat_natCast] at Kb
  cases o with
  | nil =>
   have hs := Of xs l (i : Int) n KTp
   rw [hd, ak, gi, aA, Int.toNat_natCast, Kb, aA, aE hll, ak, hw] at hs
   cases c1 : jq (l.take i) p with
   | true =>
    rw [c1, Bool.not_true, ax] at e
    rw [c1] at hs
    exact .inr ⟨_, e, hs.trans (by show _ = _; kernel_rfl)⟩
   | false =>
    rw [c1, Bool.not_false, ak] at e
    rw [c1, Bool.not_false, Bool.not_true, ax, gp, aA] at hs
    exact .inl ⟨_, e, ⟨et.symm, by rw [List.length_append, hI2]; rfl⟩, hs⟩
  | cons v o =>
   have lA : (v :: o).length + [xs.getD p.toNat 0].length <= lim := by rw [hI2, List.length_singleton, show lim = 4294967296 from rfl]; omega
   have hs := Og v o xs l (i : Int) n KTp
   rw [hd, ak, gi, aA, Int.toNat_natCast, Kb, aA, aE hll, ak, hw] at hs
   cases c1 : jq (l.take i) p with
   | true =>
    rw [c1, Bool.not_true, ax] at e
    rw [c1] at hs
    exact .inr ⟨_, e, hs.trans (by show _ = _; kernel_rfl)⟩
   | false =>
    rw [c1, Bool.not_false, ak] at e
    rw [c1, Bool.not_false, Bool.not_true, ax, gp, aA, fB lA, aA] at hs
    exact .inl ⟨_, e, ⟨et.symm, by rw [List.length_append, hI2]; rfl⟩, hs⟩
 ·rintro ⟨pre, o⟩ n ⟨_, _⟩ hd
  cases o with
  | nil =>
   show lp _ _ _ (n + 1) (xc xs l (l.length : Int)) _ = _
   rw [Of, hd, ax]
   show _ = _
   kernel_rfl
  | cons v o =>
   show lp _ _ _ (n + 1) (Cr (v :: o) xs l (l.length : Int)) _ = _
   rw [Og, hd, ax]
   show _ = _
   kernel_rfl
theorem af9 (xs l : ag) : hlp nJ fV yO (aq × LHp) (xc xs l 0) KTp = lp nJ fV yO fu (xc xs l 0) KTp := rfl
def Cs : aj := IA
def EK (aa : bk) (r : Nat) : ag := ai aa Cs (jy r).reverse
def UH (aa : bk) (xs : ag) : Bool := cy (Int.ofNat xs.length) 0 (i64.wrap (Int.ofNat xs.length - 1)) (EK aa xs.length) && Ju [] (EK aa xs.length)
def aga (aa : bk) (xs : ag) : ag := (EK aa xs.length).map fun p => xs.getD p.toNat 0
def abx : List AV -> LHp -> Tq
 | [.d Y6 ((_, _, _, _, aa, _), _, _), .d zS xs], [] => .br (aD aa) (.br (decide (xs.length <= 6)) (TX (UH aa xs) (aga aa xs)) .no) .no
 | _, _ => .no
theorem y9 {c lo hi : Int} {l : ag} (h : cy c lo hi l = true) : ∀ p ∈ l, lo <= p /\ p <= hi := by
 unfold cy cX at h
 rw [bg] at h
 intro p hp
 have := List.all_eq_true.1 h.1 p hp
 simp only [bg, decide_eq_true_eq] at this
 exact this
theorem UI : bE 217 (ao abx) := by
 have h1 := bS (d := 6) (l := [(6, [1, 6, 7, 24, 25, 26])]) Jt func217 call217
 refine aO fun args hs ae aF h' => ?_
 unfold abx at h'
 split at h'
 ·rename_i op nm ins out aa _ vs _ xs
  obtain ⟨hs, h2⟩ := Tq.br_no h'
  obtain ⟨hb, h3⟩ := Tq.br_no h2
  have hb : xs.length <= 6 := aZ hb
  refine h1.okO (.slice af) (Eq.trans ?_ h3)
  refine Eq.trans (congrArg (dj _) (abv op nm ins out aa vs xs)) ?_
  have en : (Int.ofNat xs.length).toNat = xs.length := rfl
  have es : ai aa IA (jy xs.length).reverse = EK aa xs.length := rfl
  have hr : (jy xs.length).reverse.length <= 2147483648 := by rw [List.length_reverse, nu]; omega
  have hP : (EK aa xs.length).length <= 2147483648 := jW hs Cs hr
  rw [aE (show 0 <= Int.ofNat xs.length /\ Int.ofNat xs.length <= 2147483648 from ⟨by simp only [aT]; omega, by simp only [aT]; omega⟩), ak, en, aE (show (jy xs.length).length <= 6 by rw [nu]; exact hb), ak, hs, ak, aE hr, ak, es]
  show _ = (bif UH aa xs then _ else _)
  unfold UH
  cases hq : cy (Int.ofNat xs.length) 0 (i64.wrap (Int.ofNat xs.length - 1)) (EK aa xs.length) with
  | false => rfl
  | true =>
   have w : i64.wrap (Int.ofNat xs.length - 1) = (xs.length : Int) - 1 := by simp only [aT]; exact aJ (by omega) (by omega)
   have xu := y9 hq
   rw [w] at xu
   have h9 := (af9 xs (EK aa xs.length)).trans (abw (by omega) hP (fun p hp => ⟨(xu p hp).1, by have := (xu p hp).2; omega⟩))
   rw [ak, Bool.true_and]
   refine (congrArg (dj (.slice af)) h9).trans ?_
   rw [BY, jV]
   rfl
 ·cases h'
noncomputable def agb : FnE := cU [(Y6), .slice af] (ao abx)
theorem UJ : bE 217 agb := bF UI
end
end Go.Proofs.XRT
set_option maxRecDepth 100000
set_option maxHeartbeats 4000000
namespace Go.Proofs.XRT
open Go.Vm Go Go.Shelf Tryz IntKind
noncomputable section
def Oh : Ren := ⟨fun k => match k with | 23 => 259 | _ => 0, fun k => match k with | 0 => 0 | 3 => 3 | 4 => 4 | 22 => 31 | _ => 0, fun k => k⟩
theorem UK : Lays2.n23 prog Oh := by
 constructor
 ·exact bX
 ·exact func259
 ·exact Tryz.underlying0
 ·exact Tryz.isAgg0
 ·exact Tryz.sizeOf0
 ·exact Tryz.zeroValue0
 ·exact Tryz.underlying3
 ·exact Tryz.isAgg3
 ·exact Tryz.sizeOf3
 ·exact Tryz.zeroValue3
 ·exact Tryz.underlying4
 ·exact Tryz.isAgg4
 ·exact Tryz.sizeOf4
 ·exact Tryz.zeroValue4
 ·exact Tryz.underlying31
 ·exact Tryz.isAgg31
 ·exact Tryz.sizeOf31
 ·exact Tryz.zeroValue31
 ·rfl
def gP : Ren := ⟨fun k => match k with | 21 => 260 | 27 => 280 | 28 => 281 | 35 => 298 | 39 => 258 | _ => 0, fun k => match k with | 0 => 0 | 3 => 3 | 4 => 4 | 22 => 31 | _ => 0, fun k => k⟩
theorem pQ : Lays2.n21 prog gP := by
 constructor
 ·exact bX
 ·exact func260
 ·exact func280
 ·exact func281
 ·exact func298
 ·exact func258
 ·exact Tryz.underlying0
 ·exact Tryz.isAgg0
 ·exact Tryz.sizeOf0
 ·exact Tryz.zeroValue0
 ·exact Tryz.underlying3
 ·exact Tryz.isAgg3
 ·exact Tryz.sizeOf3
 ·exact Tryz.zeroValue3
 ·exact Tryz.underlying4
 ·exact Tryz.isAgg4
 ·exact Tryz.sizeOf4
 ·exact Tryz.zeroValue4
 ·exact Tryz.underlying31
 ·exact Tryz.isAgg31
 ·exact Tryz.sizeOf31
 ·exact Tryz.zeroValue31
 ·rfl
def EL : Ren := ⟨fun k => match k with | 125 => 243 | 128 => 273 | 129 => 274 | 189 => 188 | 215 => 290 | 216 => 270 | 257 => 242 | 294 => 264 | 295 => 265 | 296 => 266 | 297 => 267 | 298 => 268 | 299 => 269 | 300 => 271 | 301 => 272 | 328 => 285 | 329 => 286 | 330 => 287 | 331 => 288 | 332 => 289 | 343 => 302 | _ => 0, fun k => match k with | 0 => 0 | 3 => 3 | 4 => 4 | 5 => 5 | 9 => 9 | 28 => 31 | 46 => 165 | 51 => 199 | 53 => 205 | 131 => 86 | 182 => 252 | 183 => 253 | 218 => 269 | 222 => 158 | 228 => 279 | 229 => 118 | _ => 0, fun k => k⟩
theorem GW : Lays.n189 prog EL := by
 constructor
 ·exact bX
 ·exact func243
 ·exact func273
 ·exact func274
 ·exact func188
 ·exact func290
 ·exact func270
 ·exact func242
 ·exact func264
 ·exact func265
 ·exact func266
 ·exact func267
 ·exact func268
 ·exact func269
 ·exact func271
 ·exact func272
 ·exact func285
 ·exact func286
 ·exact func287
 ·exact func288
 ·exact func289
 ·exact func302
 ·exact Tryz.underlying0
 ·exact Tryz.isAgg0
 ·exact Tryz.sizeOf0
 ·exact Tryz.zeroValue0
 ·exact Tryz.underlying3
 ·exact Tryz.isAgg3
 ·exact Tryz.sizeOf3
 ·exact Tryz.zeroValue3
 ·exact Tryz.underlying4
 ·exact Tryz.isAgg4
 ·exact Tryz.sizeOf4
 ·exact Tryz.zeroValue4
 ·exact Tryz.underlying5
 ·exact Tryz.isAgg5
 ·exact Tryz.sizeOf5
 ·exact Tryz.zeroValue5
 ·exact Tryz.underlying9
 ·exact Tryz.isAgg9
 ·exact Tryz.sizeOf9
 ·exact Tryz.zeroValue9
 ·exact Tryz.underlying31
 ·exact Tryz.isAgg31
 ·exact Tryz.sizeOf31
 ·exact Tryz.zeroValue31
 ·exact Tryz.underlying165
 ·exact Tryz.isAgg165
 ·exact Tryz.sizeOf165
 ·exact Tryz.zeroValue165
 ·exact Tryz.underlying199
 ·exact Tryz.isAgg199
 ·exact Tryz.sizeOf199
 ·exact Tryz.zeroValue199
 ·exact Tryz.underlying205
 ·exact Tryz.isAgg205
 ·exact Tryz.sizeOf205
 ·exact Tryz.zeroValue205
 ·exact Tryz.underlying86
 ·exact Tryz.isAgg86
 ·exact Tryz.sizeOf86
 ·exact Tryz.zeroValue86
 ·exact Tryz.underlying252
 ·exact Tryz.isAgg252
 ·exact Tryz.sizeOf252
 ·exact Tryz.zeroValue252
 ·exact Tryz.underlying253
 ·exact Tryz.isAgg253
 ·exact Tryz.sizeOf253
 ·exact Tryz.zeroValue253
 ·exact Tryz.underlying269
 ·exact Tryz.isAgg269
 ·exact Tryz.sizeOf269
 ·exact Tryz.zeroValue269
 ·exact Tryz.underlying158
 ·exact Tryz.isAgg158
 ·exact Tryz.sizeOf158
 ·exact Tryz.zeroValue158
 ·exact Tryz.underlying279
 ·exact Tryz.isAgg279
 ·exact Tryz.sizeOf279
 ·exact Tryz.zeroValue279
 ·exact Tryz.underlying118
 ·exact Tryz.isAgg118
 ·exact Tryz.sizeOf118
 ·exact Tryz.zeroValue118
def EM : Ren := ⟨fun k => match k with | 112 => 258 | _ => 0, fun k => match k with | 0 => 0 | 3 => 3 | 4 => 4 | 28 => 31 | _ => 0, fun k => k⟩
theorem GX : Lays.n112 prog EM := by
 constructor
 ·exact bX
 ·exact func258
 ·exact Tryz.underlying0
 ·exact Tryz.isAgg0
 ·exact Tryz.sizeOf0
 ·exact Tryz.zeroValue0
 ·exact Tryz.underlying3
 ·exact Tryz.isAgg3
 ·exact Tryz.sizeOf3
 ·exact Tryz.zeroValue3
 ·exact Tryz.underlying4
 ·exact Tryz.isAgg4
 ·exact Tryz.sizeOf4
 ·exact Tryz.zeroValue4
 ·exact Tryz.underlying31
 ·exact Tryz.isAgg31
 ·exact Tryz.sizeOf31
 ·exact Tryz.zeroValue31
end
end Go.Proofs.XRT
namespace Go.Vm
theorem nv {w : World} {im : Nat -> Prop} : ∀ {cs : List Value} {xs : ag}, aU (aM w im (.int .i64)) cs xs ↔ cs = xs.map (Value.int .i64)
 | cs, [] => Iff.rfl
 | cs, x :: xs => by
  simp only [aU, aM, List.map_cons]
  constructor
  ·rintro ⟨c1, c2, rfl, rfl, h⟩
   rw [(nv (w := w) (im := im)).1 h]; rfl
  ·intro h
   exact ⟨[.int .i64 x], xs.map (.int .i64), h, rfl, (nv (w := w) (im := im)).2 rfl⟩
structure uQ (w w' : World) (b : Nat) (T : TypeId) (ys : List Int) (b' cap' : Nat) : Prop where
 os : w'.os = w.os
 tape : w'.tape = w.tape
 output : w'.output = w.output
 grow : w.heap.size <= w'.heap.size
 old : ∀ c, c < w.heap.size -> c ≠ b -> w'.heap[c]? = w.heap[c]?
 place : (b' = b /\ b < w.heap.size) \/ (w.heap.size <= b' /\ b' < w'.heap.size)
 row : ∃ cells : Array Value, w'.heap[b']? = some (.cells cells T (0, 0)) /\ ys.length <= cap' /\ cap' <= maxLen /\ cells.size = cap' /\ cells.toList.take ys.length = ys.map (Value.int .i64)
theorem ny {W w' : World} {im : Nat -> Prop} {μ : Mu} {hs aF : LHp} {T : TypeId} {m m' q : Nat} {xs ys : ag} {b b' cap cap' : Nat}
  (himLt : ∀ b, im b -> b < W.heap.size) (hinv : kj W im μ (az hs)) (h0 : az hs q = some (.arr T (.int .i64) m false xs)) (hμ : μ q = .row b cap \/ (b = W.heap.size /\ m < m'))
  (h1 : az aF q = some (.arr T (.int .i64) m' false ys)) (hsame : ∀ o, o ≠ q -> az aF o = az hs o) (ht : uQ W w' b T ys b' cap') (hv : (m' = m /\ ys.length = xs.length /\ b' = b /\ cap' = cap) \/ m < m') :
  dx W im μ (az hs) w' im (fun o => if o = q then .row b' cap' else μ o) (az aF) := by
 have k1 : ∀ c, im c -> c ≠ b := fun c hc e => by
  rcases hμ with h | ⟨h, _⟩
  ·exact (hinv.sep q b (by rw [h]; rfl)).1 (e ▸ hc)
  ·have := himLt c hc; omega
 have k2 : ∀ c, c < W.heap.size -> (∀ o, (μ o).blk ≠ some c) -> c ≠ b := fun c hc hn e => by
  rcases hμ with h | ⟨h, _⟩
  ·exact hn q (by rw [h, e]; rfl)
  ·omega
 have k3 : b < W.heap.size -> (μ q).blk = some b := fun cn => by
  rcases hμ with h | ⟨h, _⟩
  ·rw [h]; rfl
  ·omega
 have k4 : ∀ o c, o ≠ q -> (μ o).blk = some c -> c ≠ b := fun o c ho hc e => by
  rcases hμ with h | ⟨h, _⟩
  ·exact ho (hinv.inj o q c hc (by rw [h, e]; rfl))
  ·have := (hinv.sep o c hc).2; omega
 have m0 : (fun o => if o = q then Pl.row b' cap' else μ o) q = .row b' cap' := if_pos rfl
 have lC : ∀ o, o ≠ q -> (fun o => if o = q then Pl.row b' cap' else μ o) o = μ o := fun o h => if_neg h
 generalize (fun o => if o = q then Pl.row b' cap' else μ o) = bm at m0 lC
 have hfob : ∀ o ob, az hs o = some ob -> ∃ cx, az aF o = some cx /\ cZ ob (μ o) cx (bm o) := by
  intro o ob ho
  by_cases e : o = q
  ·subst e
   rw [h0] at ho
   cases ho
   refine ⟨_, h1, m', false, ys, rfl, ?_⟩
   rcases hv with ⟨g1, g2, g3, g4⟩ | g
   ·rcases hμ with h | ⟨_, h⟩
    ·exact .inl ⟨g1, g2, .inl (by rw [m0, h, g3, g4])⟩
    ·omega
   ·exact .inr g
  ·exact ⟨ob, (hsame o e).trans ho, by rw [lC o e]; exact cZ.refl _ _⟩
 have hplt : b' < w'.heap.size := by
  rcases ht.place with ⟨g1, g2⟩ | ⟨_, g⟩
  ·have := ht.grow; omega
  ·exact g
 have ev : Ev W im μ (az hs) w' im bm (az aF) := ⟨fun _ h => h, fun c hc => ht.old c (himLt c hc) (k1 c hc), hfob⟩
 refine ⟨ht.os, ht.tape, ht.output, ht.grow, fun c hc hn => ht.old c hc (k2 c hc hn), fun _ h => h, fun _ h => .inl h, fun c hc => by have := himLt c hc; have := ht.grow; omega, fun o c hc => ?_, hfob, ⟨fun o c hc => ?_, fun o o' c h2 h3 => ?_, fun o ho => ?_, fun o ob ho => ?_⟩⟩
 ·by_cases e : o = q
  ·subst e
   rw [m0] at hc
   cases hc
   rcases ht.place with ⟨g1, g2⟩ | ⟨g, _⟩
   ·exact .inl ⟨o, by rw [g1]; exact k3 g2⟩
   ·exact .inr g
  ·rw [lC o e] at hc; exact .inl ⟨o, hc⟩
 ·by_cases e : o = q
  ·subst e
   rw [m0] at hc
   cases hc
   refine ⟨fun hi => ?_, hplt⟩
   rcases ht.place with ⟨g1, _⟩ | ⟨g, _⟩
   ·exact k1 _ hi g1
   ·have := himLt _ hi; omega
  ·rw [lC o e] at hc
   obtain ⟨g1, g2⟩ := hinv.sep o c hc
   exact ⟨g1, by have := ht.grow; omega⟩
 ·have key : ∀ o, o ≠ q -> (bm q).blk = some c -> (μ o).blk = some c -> False := fun o e g1 g2 => by
   rw [m0] at g1
   cases g1
   rcases ht.place with ⟨g3, _⟩ | ⟨g3, _⟩
   ·exact k4 o b' e g2 g3
   ·have := (hinv.sep o b' g2).2; omega
  by_cases e : o = q
  ·by_cases e' : o' = q
   ·rw [e, e']
   ·subst e
    rw [lC o' e'] at h3
    exact (key o' e' h2 h3).elim
  ·by_cases e' : o' = q
   ·subst e'
    rw [lC o e] at h2
    exact (key o e h3 h2).elim
   ·rw [lC o e] at h2
    rw [lC o' e'] at h3
    exact hinv.inj o o' c h2 h3
 ·have e : o ≠ q := fun e => by subst e; rw [h1] at ho; cases ho
  rw [lC o e]
  exact hinv.dom o ((hsame o e).symm.trans ho)
 ·by_cases e : o = q
  ·subst e
   rw [h1] at ho
   cases ho
   obtain ⟨cells, g1, g2, g3, g4, g5⟩ := ht.row
   refine .inr (.inl ⟨rfl, b', cap', cells, m0, g1, g2, g3, by rw [g4]; show cap' = cap' * 1; omega, ?_⟩)
   show aU (aM w' im (.int .i64)) (cells.toList.take (ys.length * 1)) ys
   rw [Nat.mul_one]
   exact nv.2 g5
  ·rw [lC o e]
   refine (hinv.obj o ob ((hsame o e).symm.trans ho)).ev ev fun c hc => ?_
   exact ht.old c (hinv.sep o c hc).2 (k4 o c e hc)
theorem uR {W : World} {im : Nat -> Prop} {μ : Mu} {hp : Hp} {o : Nat} {T : TypeId} {m : Nat} {xs : ag} (h : iH W im μ hp (μ o) (.arr T (.int .i64) m false xs)) :
  (∃ a, μ o = .nil a /\ xs = []) \/ ∃ b cap cells, μ o = .row b cap /\ W.heap[b]? = some (.cells cells T (0, 0)) /\ xs.length <= cap /\ cap <= maxLen /\ cells.size = cap /\ cells.toList.take xs.length = xs.map (Value.int .i64) := by
 rcases h with ⟨a, h1, h2⟩ | ⟨_, b, cap, cells, h1, h2, h3, h4, h5, h6⟩ | ⟨h1, _⟩
 ·exact .inl ⟨a, h1, h2⟩
 ·refine .inr ⟨b, cap, cells, h1, h2, h3, h4, by rw [h5]; show cap * 1 = cap; omega, ?_⟩
  have h6' : aU (aM W im (.int .i64)) (cells.toList.take (xs.length * 1)) xs := h6
  rw [Nat.mul_one] at h6'
  exact nv.1 h6'
 ·cases h1
theorem sm {W : World} {b : Nat} {cells : Array Value} {T : TypeId} {fr : Nat × Nat} (h : W.heap[b]? = some (.cells cells T fr)) (k : Nat) : W.cell? ⟨b, k, none⟩ = cells[k]? := by
 simp [World.cell?, h]
theorem lj {W : World} {b : Nat} {cells : Array Value} {T : TypeId} (h : W.heap[b]? = some (.cells cells T (0, 0))) (k : Nat) : W.frozen? ⟨b, k, none⟩ = false := by
 simp [World.frozen?, h]
theorem za {cells : Array Value} {xs : ag} (h : cells.toList.take xs.length = xs.map (Value.int .i64)) {j : Nat} (hj : j < xs.length) : cells[j]? = some (.int .i64 (xs[j]'hj)) := by
 have h2 : (cells.toList.take xs.length)[j]? = (xs.map (Value.int .i64))[j]? := by rw [h]
 rw [List.getElem?_take, if_pos hj, Array.getElem?_toList, List.getElem?_map, List.getElem?_eq_getElem hj] at h2
 exact h2
theorem uS {W : World} {b : Nat} {cells : Array Value} {T : TypeId} {xs : ag} (h : W.heap[b]? = some (.cells cells T (0, 0))) (ht : cells.toList.take xs.length = xs.map (Value.int .i64)) : Sort.Holds (Value.int .i64) W b 0 xs.toArray := by
 intro j hj
 have PV : j < xs.length := by simpa using hj
 refine ⟨?_, lj h _⟩
 rw [sm h, Nat.zero_add, za ht PV, getElem!_pos _ j hj]
 simp
theorem mS {W : World} {b cap n : Nat} {cells : Array Value} {T : TypeId} {os : Array Obj} {zs ys : ag} (h : W.heap[b]? = some (.cells cells T (0, 0))) (hc : cells.size = cap) (hm : cap <= maxLen) (hz : zs.length <= cap) (hy : ys.length <= zs.length) (hp : zs.take ys.length = ys) :
  uQ W (Sort.grow (Sort.putRow (Value.int .i64) (Sort.ahead W n) b 0 zs.toArray) os) b T ys b cap := by
 have hb : b < W.heap.size := (Array.getElem?_eq_some_iff.1 h).1
 have gk : (Sort.putRow (Value.int .i64) (Sort.ahead W n) b 0 zs.toArray).heap.size = W.heap.size := by
  simp [Sort.putRow, Sort.mapBlock, Sort.ahead]
 have hat : ∀ c, c < W.heap.size -> (Sort.grow (Sort.putRow (Value.int .i64) (Sort.ahead W n) b 0 zs.toArray) os).heap[c]? = (Sort.putRow (Value.int .i64) (Sort.ahead W n) b 0 zs.toArray).heap[c]? := fun c hc => by
  show (_ ++ os)[c]? = _
  rw [Array.getElem?_append_left (by rw [gk]; exact hc)]
 refine ⟨rfl, rfl, rfl, ?_, fun c hc hn => ?_, .inl ⟨rfl, hb⟩, Sort.putCells (Value.int .i64) 0 zs.toArray cells, ?_, by omega, hm, by simp [Sort.putCells, hc], ?_⟩
 ·show W.heap.size <= (_ ++ os).size
  rw [Array.size_append, gk]; omega
 ·rw [hat c hc]
  show (W.heap.modify b _)[c]? = _
  rw [Array.getElem?_modify, if_neg (fun e => hn e.symm)]
 ·rw [hat b hb]
  show (W.heap.modify b _)[b]? = _
  rw [Array.getElem?_modify, if_pos rfl, h]
  rfl
 ·apply List.ext_getElem?
  intro j
  by_cases hj : j < ys.length
  ·have hjz : j < zs.length := by omega
   have e : zs[j]? = ys[j]? := by rw [← hp, List.getElem?_take, if_pos hj]
   rw [List.getElem?_take, if_pos hj, Array.getElem?_toList]
   simp only [Sort.putCells, Array.getElem?_mapIdx]
   rw [Array.getElem?_eq_getElem (by omega), List.getElem?_map, ← e, List.getElem?_eq_getElem hjz]
   simp [hjz]
  ·rw [List.getElem?_eq_none (by rw [List.length_take]; omega), List.getElem?_eq_none (by rw [List.length_map]; omega)]
theorem xf {v : Value} (h : bh v = false) : v.cells.toList = [v] := by
 cases v <;> first | rfl | cases h
theorem ll {w : World} {im : Nat -> Prop} {μ : Mu} {hp : Hp} {o m : Nat} {T : TypeId} {e : Ty} {z : Bool} {xs : List e.den} {v : Value} (ho : hp o = some (.arr T e m z xs)) (h : RepA w im μ hp (.os o m) v.cells.toList) (ha : bh v = false) : cI (μ o) xs.length v := by
 simp only [RepA] at h
 obtain ⟨T', e', m', z', oP, h1, _, u, h2, _, h3⟩ := h
 rw [ho] at h1
 cases h1
 rw [xf ha] at h2
 cases h2
 exact h3 rfl
theorem zb {w : World} {im : Nat -> Prop} {μ : Mu} {hp : Hp} {n : Int} {v : Value} (h : RepA w im μ hp (.d (.int .i64) n) v.cells.toList) (ha : bh v = false) : v = .int .i64 n := by
 simp only [RepA, aM] at h
 rw [xf ha] at h
 cases h
 rfl
def uT : Array Value -> Nat -> List Value -> Array Value
 | c, _, [] => c
 | c, o, v :: r => uT (c.setIfInBounds o v) (o + 1) r
theorem ln : ∀ (vs : List Value) (c : Array Value) (o : Nat), (uT c o vs).size = c.size
 | [], _, _ => rfl
 | v :: r, c, o => by rw [uT, ln r]; simp
theorem mT : ∀ (vs : List Value) (c : Array Value) (o k : Nat), o + vs.length <= c.size -> (uT c o vs)[k]? = if o <= k /\ k < o + vs.length then vs[k - o]? else c[k]?
 | [], c, o, k, _ => by rw [uT, if_neg (by simp only [List.length_nil]; omega)]
 | v :: r, c, o, k, h => by
  simp only [List.length_cons] at h
  rw [uT, mT r (c.setIfInBounds o v) (o + 1) k (by simp only [Array.size_setIfInBounds]; omega)]
  by_cases h1 : o + 1 <= k /\ k < o + 1 + r.length
  ·rw [if_pos h1, if_pos (by simp only [List.length_cons]; omega), show k - o = (k - (o + 1)) + 1 by omega, List.getElem?_cons_succ]
  ·rw [if_neg h1]
   by_cases h2 : k = o
   ·subst h2
    rw [if_pos (by simp only [List.length_cons]; omega), Nat.sub_self, Array.getElem?_setIfInBounds_self_of_lt (by omega)]
    rfl
   ·rw [if_neg (by simp only [List.length_cons]; omega), Array.getElem?_setIfInBounds_ne (Ne.symm h2)]
theorem eg : ∀ (vs : List Value) (o : Nat) (w : World) (b : Nat), (∀ c, c ≠ b -> (w.setCells b o vs).heap[c]? = w.heap[c]?) /\ (∀ cells T fr, w.heap[b]? = some (.cells cells T fr) -> (w.setCells b o vs).heap[b]? = some (.cells (uT cells o vs) T fr)) /\ (w.setCells b o vs).heap.size = w.heap.size /\ (w.setCells b o vs).os = w.os /\ (w.setCells b o vs).tape = w.tape /\ (w.setCells b o vs).output = w.output
 | [], o, w, b => ⟨fun _ _ => rfl, fun _ _ _ h => h, rfl, rfl, rfl, rfl⟩
 | v :: r, o, w, b => by
  obtain ⟨h1, h2, h3, h4, h5, h6⟩ := eg r (o + 1) (w.setCell ⟨b, o, none⟩ v) b
  have e := Sort.setCell_eq w b o v
  have k1 : ∀ c, c ≠ b -> (w.setCell ⟨b, o, none⟩ v).heap[c]? = w.heap[c]? := fun c hc => by
   rw [e]
   show (w.heap.modify b _)[c]? = _
   rw [Array.getElem?_modify, if_neg (fun e => hc e.symm)]
  refine ⟨fun c hc => (h1 c hc).trans (k1 c hc), fun cells T fr h => h2 _ T fr ?_, h3.trans (by rw [e]; show (w.heap.modify b _).size = _; simp), h4, h5, h6⟩
  rw [e]
  show (w.heap.modify b _)[b]? = _
  rw [Array.getElem?_modify, if_pos rfl, h]
  rfl
def iP (xs : ag) (i : Nat) (v : Int) : ag := xs.take i ++ v :: xs.drop i
theorem pR {xs : ag} {i : Nat} {v : Int} (h : i <= xs.length) : (iP xs i v).length = xs.length + 1 := by
 unfold iP; rw [List.length_append, List.length_cons, List.length_take, List.length_drop]; omega
theorem Oi {xs : ag} {i : Nat} {v : Int} (h : i <= xs.length) (k : Nat) : (iP xs i v)[k]? = if k < i then xs[k]? else if k = i then some v else xs[k - 1]? := by
 unfold iP
 have hl : (xs.take i).length = i := by rw [List.length_take]; omega
 by_cases h1 : k < i
 ·rw [if_pos h1, List.getElem?_append_left (by omega), List.getElem?_take, if_pos h1]
 ·rw [if_neg h1, List.getElem?_append_right (by omega), hl]
  by_cases h2 : k = i
  ·subst h2; rw [if_pos rfl, Nat.sub_self]; rfl
  ·rw [if_neg h2, show k - i = (k - 1 - i) + 1 by omega, List.getElem?_cons_succ, List.getElem?_drop]
   congr 1; omega
theorem zc {c c' : Array Value} {xs : ag} {i : Nat} {v : Int} (hi : i <= xs.length) (hc : xs.length + 1 <= c.size) (mf : ∀ j, j < i -> c[j]? = (xs[j]?).map (Value.int .i64))
  (hc' : c' = uT (uT c (i + 1) ((xs.map (Value.int .i64)).drop i)) i [.int .i64 v] \/ c' = uT (uT c i [.int .i64 v]) (i + 1) ((xs.map (Value.int .i64)).drop i)) :
  c'.size = c.size /\ c'.toList.take (iP xs i v).length = (iP xs i v).map (Value.int .i64) := by
 have hd : ((xs.map (Value.int .i64)).drop i).length = xs.length - i := by rw [List.length_drop, List.length_map]
 have az : ∀ k, k < xs.length + 1 -> c'[k]? = ((iP xs i v)[k]?).map (Value.int .i64) := by
  intro k hk
  rw [Oi hi]
  rcases hc' with rfl | rfl
  ·rw [mT _ _ _ _ (by rw [ln]; simp only [List.length_singleton]; omega)]
   simp only [List.length_singleton]
   by_cases h1 : k = i
   ·subst h1; rw [if_pos ⟨Nat.le_refl _, by omega⟩, Nat.sub_self, if_neg (Nat.lt_irrefl _), if_pos rfl]; rfl
   ·rw [if_neg (by omega), mT _ _ _ _ (by rw [hd]; omega), hd]
    by_cases h2 : k < i
    ·rw [if_neg (by omega), if_pos h2]; exact mf k h2
    ·rw [if_pos (by omega), if_neg h2, if_neg h1, List.getElem?_drop, List.getElem?_map]
     congr 2; omega
  ·rw [mT _ _ _ _ (by rw [ln, hd]; omega), hd]
   by_cases h2 : i + 1 <= k
   ·rw [if_pos (by omega), if_neg (by omega), if_neg (by omega), List.getElem?_drop, List.getElem?_map]
    congr 2; omega
   ·rw [if_neg (by omega), mT _ _ _ _ (by simp only [List.length_singleton]; omega)]
    simp only [List.length_singleton]
    by_cases h1 : k = i
    ·subst h1; rw [if_pos ⟨Nat.le_refl _, by omega⟩, Nat.sub_self, if_neg (Nat.lt_irrefl _), if_pos rfl]; rfl
    ·rw [if_neg (by omega), if_pos (by omega)]; exact mf k (by omega)
 have gk : c'.size = c.size := by
  rcases hc' with rfl | rfl <;> rw [ln, ln]
 refine ⟨gk, ?_⟩
 apply List.ext_getElem?
 intro k
 rw [pR hi]
 by_cases hk : k < xs.length + 1
 ·rw [List.getElem?_take, if_pos hk, Array.getElem?_toList, az k hk, List.getElem?_map]
 ·rw [List.getElem?_eq_none (by rw [List.length_take]; omega), List.getElem?_eq_none (by rw [List.length_map, pR hi]; omega)]
end Go.Vm
set_option maxRecDepth 100000
set_option maxHeartbeats 4000000
namespace Go.Proofs.XRT
open Go.Vm Go Go.Shelf Tryz IntKind
noncomputable section
def gX (xs : ag) : ag := xs.mergeSort fun x y => decide (x <= y)
def UL : List AV -> LHp -> Tq
 | [.os 0 0], [(0, .arr 3 zI 0 false xs)] => .br (decide (xs.length <= 2147483648)) (.leaf (.ret []) [(0, .arr 3 af 0 false (gX xs))]) .no
 | _, _ => .no
theorem GY : bE 188 (ao UL) := by
 refine aO fun args hs ae aF h' => ?_
 unfold UL at h'
 split at h'
 ·rename_i xs
  obtain ⟨hb, h2⟩ := Tq.br_no h'
  have hb : List.length xs <= 2147483648 := aZ hb
  cases h2
  refine ⟨call188, fun W im μ vals himLt _ hinv hrep => ?_⟩
  have h0 : az [(0, al.arr 3 (.int .i64) 0 false xs)] 0 = some (.arr 3 (.int .i64) 0 false xs) := rfl
  simp only [RepFs] at hrep
  obtain ⟨v, us, rfl, h1, h2, rfl⟩ := hrep
  have hv := ll h0 h1 h2
  rcases uR (hinv.obj 0 _ h0) with ⟨a, g1, rfl⟩ | ⟨b, cap, cells, g1, g2, g3, g4, g5, g6⟩
  ·rw [g1] at hv
   obtain rfl : v = .slice a 0 0 := hv
   refine (Any.slices_Sort_int_none (ρ := EL) GW a 0 W).mono ?_
   rintro e w' ⟨rfl, rfl⟩
   refine ⟨_, _, im, μ, ⟨rfl, rfl⟩, ⟨rfl, rfl, rfl, Nat.le_refl _, fun _ _ _ => rfl, fun _ h => h, fun _ h => .inl h, himLt, fun o c h => .inl ⟨o, h⟩, fun o ob ho => ⟨ob, ?_, cZ.refl _ _⟩, ?_⟩, [], rfl, rfl⟩
   ·have : gX [] = [] := by simp [gX]
    rw [this]; exact ho
   ·have : gX [] = [] := by simp [gX]
    rw [this]; exact hinv
  ·rw [g1] at hv
   obtain rfl : v = .slice (some ⟨b, 0, none⟩) (List.length xs) cap := hv
   have hlen : (gX xs).length = List.length xs := List.length_mergeSort _
   refine (Any.slices_Sort_int (ρ := EL) GW b 0 cap xs W (uS g2 g6) ((Array.getElem?_eq_some_iff.1 g2).1) (by omega)).mono ?_
   rintro e w' ⟨rfl, n, os, rfl⟩
   refine ⟨_, _, im, _, ⟨rfl, rfl⟩, ny (m' := 0) (ys := gX xs) himLt hinv h0 (.inl g1) rfl ?_ (mS (zs := gX xs) g2 g5 g4 (by rw [hlen]; exact g3) (Nat.le_refl _) (List.take_of_length_le (Nat.le_refl _))) (.inl ⟨rfl, hlen, rfl, rfl⟩), [], rfl, rfl⟩
   intro o ho
   have e1 : Nat.beq 0 o = false := by rw [← Bool.not_eq_true]; intro j5; exact ho (bo j5).symm
   simp only [az, e1, ax]
 ·cases h'
def aby : List AV -> LHp -> Tq
 | [.os 0 0], [(0, .arr 3 zI 0 false xs)] => .br (decide (xs.length <= 2147483648)) (.leaf (.ret []) [(0, .arr 3 af 0 false xs.reverse)]) .no
 | _, _ => .no
theorem UM : bE 258 (ao aby) := by
 refine aO fun args hs ae aF h' => ?_
 unfold aby at h'
 split at h'
 ·rename_i xs
  obtain ⟨hb, h2⟩ := Tq.br_no h'
  have hb : List.length xs <= 2147483648 := aZ hb
  cases h2
  refine ⟨call258, fun W im μ vals himLt _ hinv hrep => ?_⟩
  have h0 : az [(0, al.arr 3 (.int .i64) 0 false xs)] 0 = some (.arr 3 (.int .i64) 0 false xs) := rfl
  simp only [RepFs] at hrep
  obtain ⟨v, us, rfl, h1, h2, rfl⟩ := hrep
  have hv := ll h0 h1 h2
  rcases uR (hinv.obj 0 _ h0) with ⟨a, g1, rfl⟩ | ⟨b, cap, cells, g1, g2, g3, g4, g5, g6⟩
  ·rw [g1] at hv
   obtain rfl : v = .slice a 0 0 := hv
   refine (Any.slices_Reverse_int_empty (ρ := EM) GX a 0 W).mono ?_
   rintro e w' ⟨rfl, rfl⟩
   refine ⟨_, _, im, μ, ⟨rfl, rfl⟩, ⟨rfl, rfl, rfl, Nat.le_refl _, fun _ _ _ => rfl, fun _ h => h, fun _ h => .inl h, himLt, fun o c h => .inl ⟨o, h⟩, fun o ob ho => ⟨ob, ?_, cZ.refl _ _⟩, ?_⟩, [], rfl, rfl⟩
   ·have : ([] : ag).reverse = [] := rfl
    rw [this]; exact ho
   ·have : ([] : ag).reverse = [] := rfl
    rw [this]; exact hinv
  ·rw [g1] at hv
   obtain rfl : v = .slice (some ⟨b, 0, none⟩) (List.length xs) cap := hv
   have hlen : xs.reverse.length = List.length xs := List.length_reverse
   refine (Any.slices_Reverse_int (ρ := EM) GX b 0 cap xs W (uS g2 g6) (by omega)).mono ?_
   rintro e w' ⟨rfl, n, rfl⟩
   have ht := mS (n := n) (os := #[]) (zs := xs.reverse) (ys := xs.reverse) g2 g5 g4 (by rw [hlen]; exact g3) (Nat.le_refl _) (List.take_of_length_le (Nat.le_refl _))
   rw [Sort.grow_empty] at ht
   refine ⟨_, _, im, _, ⟨rfl, rfl⟩, ny (m' := 0) (ys := xs.reverse) himLt hinv h0 (.inl g1) rfl ?_ ht (.inl ⟨rfl, hlen, rfl, rfl⟩), [], rfl, rfl⟩
   intro o ho
   have e1 : Nat.beq 0 o = false := by rw [← Bool.not_eq_true]; intro j5; exact ho (bo j5).symm
   simp only [az, e1, ax]
 ·cases h'
def nK (xs : ag) (i : Nat) : ag := xs.take i ++ xs.drop (i + 1)
def abz : List AV -> LHp -> Tq
 | [.os 0 0, .d zI i, .d zI j], [(0, .arr 3 zI 0 false xs)] => .br (decide (0 <= i /\ i < (List.length xs : Int) /\ j = i + 1)) (.leaf (.ret [.os 0 1]) [(0, .arr 3 af 1 false (nK xs i.toNat))]) .no
 | _, _ => .no
theorem UN : bE 259 (ao abz) := by
 refine aO fun args hs ae aF h' => ?_
 unfold abz at h'
 split at h'
 ·rename_i i j xs
  obtain ⟨hb, h2⟩ := Tq.br_no h'
  obtain ⟨b1, b2, b3⟩ := aZ hb
  cases h2
  have b3 : j = i + 1 := b3
  subst b3
  obtain ⟨k, rfl⟩ := Int.eq_ofNat_of_zero_le b1
  have b2 : k < List.length xs := by have : (k : Int) < (List.length xs : Int) := b2; omega
  refine ⟨call259, fun W im μ vals himLt _ hinv hrep => ?_⟩
  have h0 : az [(0, al.arr 3 (.int .i64) 0 false xs)] 0 = some (.arr 3 (.int .i64) 0 false xs) := rfl
  simp only [RepFs] at hrep
  obtain ⟨v, us, rfl, h1, h2, v2, us2, rfl, h3, h4, v3, us3, rfl, h5, h6, rfl⟩ := hrep
  have hv := ll h0 h1 h2
  obtain rfl := zb h3 h4
  obtain rfl := zb h5 h6
  rcases uR (hinv.obj 0 _ h0) with ⟨a, g1, rfl⟩ | ⟨b, cap, cells, g1, g2, g3, g4, g5, g6⟩
  ·simp at b2
  ·rw [g1] at hv
   obtain rfl : v = .slice (some ⟨b, 0, none⟩) (List.length xs) cap := hv
   have hd := Any.slices_Delete_int (ρ := Oh) UK b 0 cap k (k + 1) xs W (uS g2 g6) g3 (by rw [show maxLen = 9223372036854775807 by decide] at g4; exact g4) (by omega) (by omega)
   have hlen : (nK xs k).length = List.length xs - 1 := by unfold nK; rw [List.length_append, List.length_take, List.length_drop]; omega
   have el : List.length xs - (k + 1 - k) = (nK xs k).length := by rw [hlen]; omega
   have hzl : (xs.take k ++ xs.drop (k + 1) ++ List.replicate (k + 1 - k) 0).length = List.length xs := by rw [List.length_append, List.length_replicate]; show (nK xs k).length + _ = _; omega
   refine hd.mono ?_
   rintro e w' ⟨rfl, n, rfl⟩
   have ht := mS (n := n) (os := #[]) (zs := xs.take k ++ xs.drop (k + 1) ++ List.replicate (k + 1 - k) 0) (ys := nK xs k) g2 g5 g4 (by rw [hzl]; exact g3) (by rw [hzl, hlen]; omega) (by
    unfold nK
    rw [List.take_append_of_le_length (Nat.le_refl _), List.take_of_length_le (Nat.le_refl _)])
   rw [Sort.grow_empty] at ht
   refine ⟨_, _, im, _, ⟨rfl, rfl⟩, ny (m' := 1) (ys := nK xs k) himLt hinv h0 (.inl g1) rfl ?_ ht (.inr (by decide)), _, rfl, ?_, rfl⟩
   ·intro o ho
    have e1 : Nat.beq 0 o = false := by rw [← Bool.not_eq_true]; intro j5; exact ho (bo j5).symm
    simp only [az, e1, ax]
   ·simp only [RepA]
    refine ⟨3, .int .i64, 1, false, nK xs k, rfl, Nat.le_refl _, _, rfl, rfl, fun _ => ?_⟩
    show cI (if 0 = 0 then Pl.row b cap else μ 0) _ _
    rw [if_pos rfl]
    show Value.slice _ _ _ = Value.slice _ _ _
    rw [← el]
 ·cases h'
def abA : List AV -> LHp -> Tq
 | [.os 1 0, .d zI i, .os 0 0], [(0, .arr 3 zI 0 false vs), (1, .arr 3 zI 0 false xs)] => .br (decide (0 <= i /\ i <= (List.length xs : Int) /\ List.length xs <= 2147483648)) (.br (Nat.beq (List.length vs) 1) (.leaf (.ret [.os 1 1]) [(0, .arr 3 af 0 false vs), (1, .arr 3 af 1 false (iP xs i.toNat (List.headD vs 0)))]) .no) .no
 | _, _ => .no
theorem uU : ∀ (xs : ag), ∀ v ∈ xs.map (Value.int .i64), v.oneCell' = true := by
 intro xs v hv
 obtain ⟨x, _, rfl⟩ := List.mem_map.1 hv
 rfl
theorem Ct {l : List Value} {Z : Array Value} {n : Nat} (h : l.length = n) : (l.toArray ++ Z).toList.take n = l := by
 subst h
 rw [Array.toList_append, List.take_append_of_le_length (Nat.le_refl _), List.take_of_length_le (Nat.le_refl _)]
theorem UO : bE 260 (ao abA) := by
 refine aO fun args hs ae aF h' => ?_
 unfold abA at h'
 split at h'
 ·rename_i i vs xs
  obtain ⟨hb, h2⟩ := Tq.br_no h'
  obtain ⟨b1, b2, b3⟩ := aZ hb
  obtain ⟨b4, h2⟩ := Tq.br_no h2
  have b4 : List.length vs = 1 := bo b4
  cases h2
  obtain ⟨k, rfl⟩ := Int.eq_ofNat_of_zero_le b1
  have b2 : k <= List.length xs := by have : (k : Int) <= (List.length xs : Int) := b2; omega
  obtain ⟨v, rfl⟩ : ∃ v : Int, vs = [v] := by
   match vs, b4 with
   | [v], _ => exact ⟨v, rfl⟩
  refine ⟨call260, fun W im μ vals himLt _ hinv hrep => ?_⟩
  have h0 : az [(0, al.arr 3 (.int .i64) 0 false [v]), (1, al.arr 3 (.int .i64) 0 false xs)] 1 = some (.arr 3 (.int .i64) 0 false xs) := rfl
  have E8 : az [(0, al.arr 3 (.int .i64) 0 false [v]), (1, al.arr 3 (.int .i64) 0 false xs)] 0 = some (.arr 3 (.int .i64) 0 false [v]) := rfl
  simp only [RepFs] at hrep
  obtain ⟨u, us, rfl, h1, h2, u2, us2, rfl, h3, h4, u3, us3, rfl, h5, h6, rfl⟩ := hrep
  have hv := ll h0 h1 h2
  obtain rfl := zb h3 h4
  have hv3 := ll E8 h5 h6
  have hvrow := uR (hinv.obj 0 _ E8)
  rcases hvrow with ⟨a, _, h⟩ | ⟨vb, vc, vcells, q1, q2, q3, q4, q5, q6⟩
  ·cases h
  rw [q1] at hv3
  obtain rfl : u3 = .slice (some ⟨vb, 0, none⟩) 1 vc := hv3
  have hsame : ∀ o, o ≠ 1 -> az [(0, al.arr 3 af 0 false [v]), (1, al.arr 3 af 1 false (iP xs k v))] o = az [(0, al.arr 3 (.int .i64) 0 false [v]), (1, al.arr 3 (.int .i64) 0 false xs)] o := by
   intro o ho
   have e1 : Nat.beq 1 o = false := by rw [← Bool.not_eq_true]; intro j5; exact ho (bo j5).symm
   simp only [az, e1]
   rfl
  have HA : ∀ j u, [Value.int .i64 v][j]? = some u -> W.cell? ⟨vb, 0 + j, none⟩ = some u := by
   intro j u hu
   match j with
   | 0 =>
    cases hu
    rw [sm q2, za q6 (j := 0) (by simp)]
    rfl
   | j + 1 => cases hu
  have h1v : ∀ u ∈ [Value.int .i64 v], u.oneCell' = true := uU [v]
  have hlen := pR (v := v) b2
  have fin : ∀ {b cap b' cap' : Nat} {e : Ending} {w' : World}, (μ 1 = .row b cap \/ (b = W.heap.size /\ (0 : Nat) < 1)) -> uQ W w' b 3 (iP xs k v) b' cap' -> e = .returned (.slice (some ⟨b', 0, none⟩) (List.length xs + 1) cap') ->
    ∃ ae h1 bT bm, (ae = aq.ret [.os 1 1] /\ h1 = az [(0, al.arr 3 af 0 false [v]), (1, al.arr 3 af 1 false (iP xs k v))]) /\ dx W im μ (az [(0, al.arr 3 (.int .i64) 0 false [v]), (1, al.arr 3 (.int .i64) 0 false xs)]) w' bT bm h1 /\ kC w' bT bm h1 ae e := by
   intro b cap b' cap' e w' hμ ht he
   refine ⟨_, _, im, _, ⟨rfl, rfl⟩, ny (m' := 1) (ys := iP xs k v) himLt hinv h0 hμ rfl hsame ht (.inr (by decide)), _, he, ?_, rfl⟩
   simp only [RepA]
   refine ⟨3, .int .i64, 1, false, iP xs k v, rfl, Nat.le_refl _, _, rfl, rfl, fun _ => ?_⟩
   show cI (if 1 = 1 then Pl.row b' cap' else μ 1) _ _
   rw [if_pos rfl]
   show Value.slice _ _ _ = Value.slice _ _ _
   rw [hlen]
  have mx : maxLen = 9223372036854775807 := by decide
  have new : ∀ {b cap : Nat} {cells : Array Value} {w' : World}, (∀ c, c < W.heap.size -> w'.heap[c]? = W.heap[c]?) -> w'.os = W.os -> w'.tape = W.tape -> w'.output = W.output -> w'.heap.size = W.heap.size + 1 -> w'.heap[W.heap.size]? = some (.cells cells 3 (0, 0)) -> cells.size = cap -> List.length xs + 1 <= cap -> cap <= maxLen -> cells.toList.take (iP xs k v).length = (iP xs k v).map (Value.int .i64) -> uQ W w' b 3 (iP xs k v) W.heap.size cap :=
   fun g1 g2 g3 g4 g5 g6 g7 g8 g9 g10 => ⟨g2, g3, g4, by omega, fun c hc _ => g1 c hc, .inr ⟨Nat.le_refl _, by omega⟩, _, g6, by rw [hlen]; exact g8, g9, g7, g10⟩
  rcases uR (hinv.obj 1 _ h0) with ⟨a, g1, rfl⟩ | ⟨b, cap, cells, g1, g2, g3, g4, g5, g6⟩
  ·rw [g1] at hv
   obtain rfl : u = .slice a 0 0 := hv
   obtain rfl : k = 0 := by simpa using b2
   refine (Any2.slices_Insert_int_end_grow (ρ := gP) pQ a 0 0 vb 0 1 vc [] [.int .i64 v] W (by decide) (Nat.le_refl _) (by decide) (by decide) rfl rfl (fun _ => rfl) (fun _ _ j u hu => by cases hu) HA h1v).mono ?_
   rintro e w' ⟨rfl, rfl⟩
   have zJ := grownCap_ge W (0 + 1) 0 (gP.t 3)
   have hle := grownCap_le_maxLen W (0 + 1) 0 (gP.t 3) (by rw [mx]; decide)
   refine fin (b := W.heap.size) (cap := 0) (.inr ⟨rfl, by decide⟩) (new (fun c hc => heap_alloc_old W.drew _ hc) rfl rfl rfl (by show (W.heap.push _).size = _; simp) (heap_alloc_new W.drew _) ?_ zJ hle ?_) rfl
   ·have hz : (Builtin.zeroCells (Value.int .i64 0).cells (grownCap W (0 + 1) 0 (gP.t 3) - (0 + 1))).size = grownCap W (0 + 1) 0 (gP.t 3) - (0 + 1) := by simp [Builtin.zeroCells, Value.cells]
    rw [Array.size_append, hz]
    show 1 + _ = _
    omega
   ·exact Ct rfl
  ·rw [g1] at hv
   obtain rfl : u = .slice (some ⟨b, 0, none⟩) (List.length xs) cap := hv
   have hbW : b < W.heap.size := (Array.getElem?_eq_some_iff.1 g2).1
   have mf : ∀ j, j < List.length xs -> cells[j]? = (xs[j]?).map (Value.int .i64) := fun j hj => by rw [za g6 hj, List.getElem?_eq_getElem hj]; rfl
   have qb : ∀ j u, (xs.map (Value.int .i64))[j]? = some u -> W.cell? ⟨b, 0 + j, none⟩ = some u := fun j u hu => by
    have hj : j < List.length xs := by have := (List.getElem?_eq_some_iff.1 hu).1; simpa using this
    rw [sm g2, Nat.zero_add, mf j hj, ← List.getElem?_map]; exact hu
   have hsome : ∀ j, j < cap -> (W.cell? ⟨b, 0 + j, none⟩).isSome = true := fun j hj => by
    rw [sm g2, Nat.zero_add, Array.getElem?_eq_getElem (by omega)]; rfl
   have hvb : vb ≠ b := fun e => by
    have := hinv.inj 0 1 b (by rw [q1, e]; rfl) (by rw [g1]; rfl)
    cases this
   have C5 : (xs.map (Value.int .i64)).length = List.length xs := List.length_map _
   by_cases hr : List.length xs + 1 <= cap
   ·have place : ∀ {w' : World} {c' : Array Value}, w'.os = W.os -> w'.tape = W.tape -> w'.output = W.output -> w'.heap.size = W.heap.size -> (∀ c, c ≠ b -> w'.heap[c]? = W.heap[c]?) -> w'.heap[b]? = some (.cells c' 3 (0, 0)) -> (c'.size = cells.size /\ c'.toList.take (iP xs k v).length = (iP xs k v).map (Value.int .i64)) -> uQ W w' b 3 (iP xs k v) b cap :=
     fun g7 g8 g9 g10 g11 g12 g13 => ⟨g7, g8, g9, by omega, fun c _ hc => g11 c hc, .inl ⟨rfl, hbW⟩, _, g12, by rw [hlen]; exact hr, g4, by rw [g13.1, g5], g13.2⟩
    by_cases hk : k < List.length xs
    ·refine (Any2.slices_Insert_int_shift (ρ := gP) pQ b 0 (List.length xs) cap k vb 0 1 vc (xs.map (Value.int .i64)) [.int .i64 v] W hk (by decide) hr (by rw [mx] at g4; exact g4) hvb C5 rfl qb (fun j hj => hsome j (by omega)) (fun j _ => lj g2 _) HA (uU xs) h1v 3 3 vcells.size cap (by simp [World.shape?, q2]) (by simp [World.shape?, g2, g5]) (by omega) (lj q2 _) (lj q2 _)).mono ?_
     rintro e w' ⟨rfl, rfl⟩
     obtain ⟨s1, s2, s3, s4, s5, s6⟩ := eg ((xs.map (Value.int .i64)).drop k) (0 + (k + 1)) W.drew b
     obtain ⟨t1, t2, t3, t4, t5, t6⟩ := eg [Value.int .i64 v] (0 + k) (W.drew.setCells b (0 + (k + 1)) ((xs.map (Value.int .i64)).drop k)) b
     have e1 := s2 cells 3 (0, 0) g2
     have e2 := t2 _ 3 (0, 0) e1
     rw [Nat.zero_add, Nat.zero_add] at e2
     exact fin (.inl g1) (place (t4.trans s4) (t5.trans s5) (t6.trans s6) (t3.trans s3) (fun c hc => (t1 c hc).trans (s1 c hc)) (by rw [Nat.zero_add, Nat.zero_add]; exact e2) (zc b2 (by omega) (fun j hj => mf j (by omega)) (.inl rfl))) rfl
    ·obtain rfl : k = List.length xs := by omega
     refine (Any2.slices_Insert_int_end_room (ρ := gP) pQ b 0 (List.length xs) cap vb 0 1 vc [.int .i64 v] W (by decide) hr (by rw [mx] at g4; exact g4) rfl (fun j hj => by rw [Nat.add_assoc]; exact hsome _ (by omega)) (fun j _ => lj g2 _) HA h1v).mono ?_
     rintro e w' ⟨rfl, rfl⟩
     obtain ⟨t1, t2, t3, t4, t5, t6⟩ := eg [Value.int .i64 v] (0 + List.length xs) W b
     have e2 := t2 cells 3 (0, 0) g2
     rw [Nat.zero_add] at e2
     refine fin (.inl g1) (place t4 t5 t6 t3 t1 (by rw [Nat.zero_add]; exact e2) (zc b2 (by omega) (fun j hj => mf j hj) (.inr ?_))) rfl
     have ed : (xs.map (Value.int .i64)).drop (List.length xs) = [] := List.drop_eq_nil_of_le (by rw [C5]; omega)
     rw [ed]
     rfl
   ·have hcap : cap = List.length xs := by omega
    have zJ := grownCap_ge W (List.length xs + 1) cap (gP.t 3)
    have hle := grownCap_le_maxLen W (List.length xs + 1) cap (gP.t 3) (by rw [mx]; omega)
    by_cases hk : k < List.length xs
    ·refine (Any2.slices_Insert_int_grow (ρ := gP) pQ b 0 (List.length xs) cap k vb 0 1 vc (xs.map (Value.int .i64)) [.int .i64 v] W hk (by decide) g3 (by omega) (by omega) C5 rfl qb HA (uU xs) h1v).mono ?_
     rintro e w' ⟨rfl, rfl⟩
     generalize hG : grownCap W (List.length xs + 1) cap (gP.t 3) = G at zJ hle ⊢
     generalize hC : ((xs.map (Value.int .i64)).take k).toArray ++ Builtin.zeroCells (Value.int .i64 0).cells (List.length xs + 1 - k) ++ Builtin.zeroCells (Value.int .i64 0).cells (G - (List.length xs + 1)) = C
     have hz : ∀ n, (Builtin.zeroCells (Value.int .i64 0).cells n).size = n := fun n => by simp [Builtin.zeroCells, Value.cells]
     have htk : ((xs.map (Value.int .i64)).take k).toArray.size = k := by simp; omega
     have hCs : C.size = G := by rw [← hC, Array.size_append, Array.size_append, htk, hz, hz]; omega
     have hClo : ∀ j, j < k -> C[j]? = (xs[j]?).map (Value.int .i64) := fun j hj => by
      rw [← hC, Array.getElem?_append_left (by rw [Array.size_append, htk, hz]; omega), Array.getElem?_append_left (by rw [htk]; exact hj)]
      simp [hj]
     obtain ⟨s1, s2, s3, s4, s5, s6⟩ := eg [Value.int .i64 v] k (W.alloc (.cells C 3)).drew W.heap.size
     obtain ⟨t1, t2, t3, t4, t5, t6⟩ := eg ((xs.map (Value.int .i64)).drop k) (k + 1) (((W.alloc (.cells C 3)).drew.setCells W.heap.size k [Value.int .i64 v]).drew) W.heap.size
     have e0 : (W.alloc (.cells C 3)).drew.heap[W.heap.size]? = some (.cells C 3 (0, 0)) := heap_alloc_new W _
     have e1 := s2 C 3 (0, 0) e0
     have e2 := t2 _ 3 (0, 0) e1
     have hrow := zc (c := C) (v := v) b2 (by omega) hClo (.inr rfl)
     refine fin (.inl g1) (new (fun c hc => (t1 c (by omega)).trans ((s1 c (by omega)).trans (heap_alloc_old W _ hc))) (t4.trans s4) (t5.trans s5) (t6.trans s6) (t3.trans (s3.trans (by show (W.heap.push _).size = _; simp))) e2 (by rw [hrow.1, hCs]) zJ hle hrow.2) rfl
    ·obtain rfl : k = List.length xs := by omega
     refine (Any2.slices_Insert_int_end_grow (ρ := gP) pQ (some ⟨b, 0, none⟩) (List.length xs) cap vb 0 1 vc (xs.map (Value.int .i64)) [.int .i64 v] W (by decide) g3 (by omega) (by omega) C5 rfl (fun h => by cases h) (fun a ha j u hu => by cases ha; rw [Addr.add_lit]; exact qb j u hu) HA h1v).mono ?_
     rintro e w' ⟨rfl, rfl⟩
     generalize hG : grownCap W (List.length xs + 1) cap (gP.t 3) = G at zJ hle ⊢
     have hz : ∀ n, (Builtin.zeroCells (Value.int .i64 0).cells n).size = n := fun n => by simp [Builtin.zeroCells, Value.cells]
     refine fin (.inl g1) (new (fun c hc => heap_alloc_old W.drew _ hc) rfl rfl rfl (by show (W.heap.push _).size = _; simp) (heap_alloc_new W.drew _) ?_ zJ hle ?_) rfl
     ·rw [Array.size_append, hz]
      simp
      omega
     ·have ei : iP xs (List.length xs) v = xs ++ [v] := by unfold iP; rw [List.take_of_length_le (Nat.le_refl _), List.drop_eq_nil_of_le (Nat.le_refl _)]
      rw [ei, List.map_append]
      exact Ct (by simp)
 ·cases h'
end
end Go.Proofs.XRT
set_option maxRecDepth 100000
set_option maxHeartbeats 4000000
namespace Go.Proofs.XRT
open Go.Vm Go Tryz IntKind
noncomputable section
noncomputable def Oj : Code := bD f223
noncomputable def EN : Code := cL (cL (cR (cL (cR (cR (cR (cR (cR Oj))))))))
noncomputable def iv : Cfg := ⟨36, 6, 0, [(6, [7, 24, 25, 26])], true⟩
noncomputable def Ol : Code := bD f222
noncomputable def EO : Code := cL (cL (cR (cL (cR (cR (cR (cR (cR Ol))))))))
noncomputable def iw : Cfg := ⟨40, 6, 0, [(6, [6, 21, 22, 23])], true⟩
def UP : List AV -> LHp -> Tq
 | [.d zS l, .d zI r], [] => .br (decide (l.length <= 2147483648)) (.br (fD r l []) (.leaf (.ret [.os 0 0]) [(0, .arr 3 af 0 false (me l r))]) (pnc 131 4)) .no
 | _, _ => .no
theorem GZ : bE 211 (ao UP) := by
 have h0 := bS (d := 5) (l := [(3, [1, 5, 9, 10, 11])]) wY func211 call211
 have h1 : bE 211 (Ns 3 af (au nG f211 5 [(3, [1, 5, 9, 10, 11])])) := uJ h0
 refine aO fun args hs ae aF h' => ?_
 unfold UP at h'
 split at h'
 ·rename_i l r
  obtain ⟨hb, h2⟩ := Tq.br_no h'
  refine h1.ok _ _ _ _ (Eq.trans ?_ h2)
  simp only [Ns]
  rw [h0.eq]
  have e : (au nG f211 5 [(3, [1, 5, 9, 10, 11])]).run [.d (.slice af) l, I r] [] (fun a h => some (a, h)) = bif fD r l [] then gW 3 (me l r) else some (.panic 131 4, []) := (Nd _ _).trans ((Wr _ _).trans (Ni (aZ hb)))
  rw [e]
  show _ = (bif fD r l [] then _ else _)
  cases fD r l [] with
  | true => exact GJ _ _
  | false => rfl
 ·cases h'
noncomputable def pS : Env := ((((sa.add 25 uC).add 211 (ao UP)).add 188 (ao UL)).add 107 (ao Cb)).add 260 (ao abA)
theorem Jv : pS.Good := ((((dR.add iF).add GZ).add GY).add nt).add UO
def Cu (l : ag) (i : Int) (o : ag) : LSt := { fr := aw 6 [(7, .os 0 0), (24, .os 1 0), (25, I (Int.ofNat l.length)), (26, I i)], hp := [(0, .arr 3 af 0 false o), (1, .arr 3 af 0 false l)], nx := 2 }
theorem abB (op nm : aj) (ins : List (aj)) (out : aj) (aa : bk) (vs : cg) (xs : ag) : aC pS f223 6 [(6, [7, 24, 25, 26])] [gu (op, nm, ins, out, aa, ()) vs, .d (.slice af) xs] [] ah = bif aD aa then bif decide ((ai aa jP []).length <= 2147483648) then bif fD (i64.wrap (Int.ofNat xs.length + Int.ofNat (ai aa jP []).length)) (ai aa jP []) [] then bif decide ((me (ai aa jP []) (i64.wrap (Int.ofNat xs.length + Int.ofNat (ai aa jP []).length))).length <= 2147483648) then bif decide (xs.length <= 2147483648) then (hlp pS iv) EN _ (Cu (gX (me (ai aa jP []) (i64.wrap (Int.ofNat xs.length + Int.ofNat (ai aa jP []).length)))) 0 xs) (aW 0 (bt pS iv [6] (hlp pS iv) (cR (cR (cR (cR (cR (cR Oj)))))) (bA prog 0 f223.results.toList ah))) else none else none else aV else none else none := (bI [6] iv rfl).trans (by obtain ⟨hl, h⟩ := bw pS iv; rw [h]; kernel_rfl)
noncomputable def pT : Env := (((((sa.add 25 uC).add 211 (ao UP)).add 188 (ao UL)).add 258 (ao aby)).add 107 (ao Cb)).add 259 (ao abz)
theorem Jw : pT.Good := (((((dR.add iF).add GZ).add GY).add UM).add nt).add UN
def Cv (l : ag) (i : Int) (o : ag) : LSt := { fr := aw 6 [(6, .os 0 0), (21, .os 1 0), (22, I (Int.ofNat l.length)), (23, I i)], hp := [(0, .arr 3 af 0 false o), (1, .arr 3 af 0 false l)], nx := 2 }
theorem abC (op nm : aj) (ins : List (aj)) (out : aj) (aa : bk) (vs : cg) (xs : ag) : aC pT f222 6 [(6, [6, 21, 22, 23])] [gu (op, nm, ins, out, aa, ()) vs, .d (.slice af) xs] [] ah = bif aD aa then bif decide ((ai aa jP []).length <= 2147483648) then bif fD (Int.ofNat xs.length) (ai aa jP []) [] then bif decide ((me (ai aa jP []) (Int.ofNat xs.length)).length <= 2147483648) then bif decide ((gX (me (ai aa jP []) (Int.ofNat xs.length))).length <= 2147483648) then bif decide (xs.length <= 2147483648) then (hlp pT iw) EO _ (Cv ((gX (me (ai aa jP []) (Int.ofNat xs.length))).reverse) 0 xs) (aW 0 (bt pT iw [6] (hlp pT iw) (cR (cR (cR (cR (cR (cR Ol)))))) (bA prog 0 f222.results.toList ah))) else none else none else none else aV else none else none := (bI [6] iw rfl).trans (by obtain ⟨hl, h⟩ := bw pT iw; rw [h]; kernel_rfl)
theorem WX (l : ag) (i : Int) (o : ag) (n : Nat) {R : Type} (k : AEx -> LSt -> Option R) : lp pS iv EN (n + 1) (Cu l i o) k = bif decide (i < Int.ofNat l.length) then (idx l i).bind fun v1 => (l[i.toNat]?).bind fun v2 => bif decide (0 <= v2 /\ v2 <= Int.ofNat o.length /\ o.length <= 2147483648) then lp pS iv EN n (Cu l (i64.wrap (i + 1)) (iP o (Int.toNat v2) 1)) k else none else k (AEx.exit 0) { fr := aw 6 [(7, AV.os 0 0), (24, AV.os 1 0), (25, I (Int.ofNat l.length)), (26, I i), (27, B false)], hp := [(0, al.arr 3 (af) 0 false o), (1, al.arr 3 (af) 0 false l)], nx := 2 } := by kernel_rfl
theorem WY (l : ag) (i : Int) (o : ag) (n : Nat) {R : Type} (k : AEx -> LSt -> Option R) : lp pT iw EO (n + 1) (Cv l i o) k = bif decide (i < Int.ofNat l.length) then (idx l i).bind fun v1 => (l[i.toNat]?).bind fun v2 => (idx o v2).bind fun v3 => (o[Int.toNat v2]?).bind fun v4 => bif !v4 == 1 then k (AEx.panic 131 4) { fr := aw 6 [(6, AV.os 0 0), (8, I v2), (21, AV.os 1 0), (22, I (Int.ofNat l.length)), (23, I i), (24, B true), (25, AV.oe 1 0 i.toNat), (26, I v2), (27, AV.os 0 0), (28, I v2), (29, AV.oe 0 0 (Int.toNat v2)), (30, I v4), (31, B (v4 == 1))], hp := [(0, al.arr 3 (af) 0 false o), (1, al.arr 3 (af) 0 false l)], nx := 2 } else bif decide (0 <= v2 /\ v2 < Int.ofNat o.length /\ i64.wrap (v2 + 1) = v2 + 1) then lp pT iw EO n (Cv l (i64.wrap (i + 1)) (nK o (Int.toNat v2))) k else none else k (AEx.exit 0) { fr := aw 6 [(6, AV.os 0 0), (21, AV.os 1 0), (22, I (Int.ofNat l.length)), (23, I i), (24, B false)], hp := [(0, al.arr 3 (af) 0 false o), (1, al.arr 3 (af) 0 false l)], nx := 2 } := by kernel_rfl
theorem oH {r : Int} : ∀ {l o : ag}, fD r l o = true -> (me l r).Nodup /\ ∀ a ∈ me l r, a ∉ o
 | [], _, _ => ⟨List.nodup_nil, fun _ h => by cases h⟩
 | a :: l, o, h => by
  rw [fD, bg, bg] at h
  obtain ⟨h1, h2⟩ := oH h.2.2
  have h3 : lD a r ∉ o := fun hm => by
   have : (o.any fun w => lD a r == w) = true := List.any_eq_true.2 ⟨_, hm, by simp⟩
   rw [this] at h
   exact absurd h.2.1 (by decide)
  refine ⟨List.nodup_cons.2 ⟨fun hm => h2 _ hm (List.mem_append.2 (.inr (List.mem_singleton.2 rfl))), h1⟩, fun b hb => ?_⟩
  rcases List.mem_cons.1 hb with rfl | hb
  ·exact h3
  ·exact fun hm => h2 b hb (List.mem_append.2 (.inl hm))
theorem Om {r : Int} {l o : ag} (h0 : 0 <= r) (h1 : r <= 4294967296) (h : fD r l o = true) : ∀ a ∈ me l r, 0 <= a /\ a < r := by
 intro a ha
 obtain ⟨b, hb, rfl⟩ := List.mem_map.1 ha
 exact NK h0 h1 (uL h b hb)
theorem lq (l : ag) : (gX l).Perm l := List.mergeSort_perm _ _
theorem uV (l : ag) : (gX l).length = l.length := (lq l).length_eq
theorem Cw {l : ag} (h : l.Nodup) : (gX l).Pairwise (· < ·) := by
 have h1 : (gX l).Pairwise (fun a b => decide (a <= b) = true) := List.pairwise_mergeSort (fun a b c => by simp only [decide_eq_true_eq]; omega) (fun a b => by simp only [Bool.or_eq_true, decide_eq_true_eq]; omega) l
 have h2 : (gX l).Nodup := (lq l).nodup_iff.2 h
 refine List.Pairwise.imp_of_mem (R := fun a b => decide (a <= b) = true /\ a ≠ b) (fun _ _ hr => ?_) (h1.and h2)
 have := aZ hr.1
 have := hr.2
 omega
theorem On {S : ag} (h : S.Pairwise (· < ·)) {i : Nat} : ∀ (d : Nat) (hi : i + d < S.length), S[i]'(by omega) + (d : Int) <= S[i + d]
 | 0, hi => by simp
 | d + 1, hi => by
  have h1 := On h (i := i) d (by omega)
  have h2 := List.pairwise_iff_getElem.1 h (i + d) (i + (d + 1)) (by omega) hi (by omega)
  push_cast
  omega
theorem Oo {S : ag} (h : S.Pairwise (· > ·)) : ∀ (i : Nat) (hi : i < S.length), S[i] + (i : Int) <= S[0]'(by omega)
 | 0, hi => by simp
 | i + 1, hi => by
  have h1 := Oo h i (by omega)
  have h2 := List.pairwise_iff_getElem.1 h i (i + 1) (by omega) hi (by omega)
  push_cast
  omega
noncomputable def KUq : AEx -> LSt -> Option (aq × LHp) := (aW 0 (bt pS iv [6] (hlp pS iv) (cR (cR (cR (cR (cR (cR Oj)))))) (bA prog 0 f223.results.toList ah)))
noncomputable def KSz : AEx -> LSt -> Option (aq × LHp) := (aW 0 (bt pT iw [6] (hlp pT iw) (cR (cR (cR (cR (cR (cR Ol)))))) (bA prog 0 f222.results.toList ah)))
def usR : List Int -> List Int -> ag
 | [], o => o
 | a :: l, o => usR l (iP o a.toNat 1)
theorem abD {l xs : ag} (hx : xs.length <= 6) (hl : l.length <= 2147483640) (xu : ∀ i (h : i < l.length), 0 <= l[i] /\ l[i] <= (xs.length : Int) + (i : Int)) : lp pS iv EN fu (Cu l 0 xs) KUq = yR 3 (some (usR l xs)) := by
 have hm : maxLen = 9223372036854775807 := by decide
 have sc : ∀ (l o : ag), cm (fun (o : ag) (a : Int) => Nx.go (R := aq × LHp) (iP o a.toNat 1)) (fun o => yR 3 (some o)) l o = yR 3 (some (usR l o)) := by
  intro l
  induction l with
  | nil => intro o; rfl
  | cons a l ih => intro o; exact ih _
 refine (dD (xs := l) (T := fun n s => lp pS iv EN n s KUq) (st := fun (i : Int) (o : ag) => Cu l i o) (f := fun (o : ag) (a : Int) => Nx.go (iP o a.toNat 1)) (fin := fun (o : ag) => yR 3 (some o)) (fun (i : Nat) (o : ag) => o.length = xs.length + i) (by omega) ?_ ?_ (a := xs) rfl).trans (sc l xs)
 ·intro i o a n hI hi gx gi hw hd
  have gx' := gx
  rw [List.getElem?_eq_getElem hi] at gx'
  have ea := Option.some.inj gx'
  obtain ⟨a0, a1⟩ := xu i hi
  rw [ea] at a0 a1
  have hs := WX l (i : Int) o n KUq
  rw [hd, ak, gi, aA, Int.toNat_natCast, gx, aA, aE (show 0 <= a /\ a <= Int.ofNat o.length /\ o.length <= 2147483648 by simp only [aT]; omega), ak, hw] at hs
  exact .inl ⟨_, rfl, by show (iP o a.toNat 1).length = _; rw [pR (by omega), hI]; omega, hs⟩
 ·intro o n hI hd
  show lp _ _ _ (n + 1) (Cu l (l.length : Int) o) _ = _
  rw [WX, hd, ax]
  show _ = _
  kernel_rfl
theorem age (l xs : ag) : hlp pS iv EN (aq × LHp) (Cu l 0 xs) KUq = lp pS iv EN fu (Cu l 0 xs) KUq := rfl
def sqR : List Int -> List Int -> Option (ag)
 | [], o => some o
 | a :: l, o => bif o.getD a.toNat 0 == 1 then sqR l (nK o a.toNat) else none
theorem Oq {xs : ag} {i : Nat} (h : i < xs.length) : (nK xs i).length + 1 = xs.length := by
 unfold nK; rw [List.length_append, List.length_take, List.length_drop]; omega
theorem abE {l xs : ag} (hx : xs.length <= 6) (hl : l.length <= 2147483640) (xu : ∀ i (h : i < l.length), 0 <= l[i] /\ l[i] + (i : Int) < (xs.length : Int)) : lp pT iw EO fu (Cv l 0 xs) KSz = yR 3 (sqR l xs) := by
 have hm : maxLen = 9223372036854775807 := by decide
 have sc : ∀ (l o : ag), cm (fun (o : ag) (a : Int) => bif o.getD a.toNat 0 == 1 then Nx.go (nK o a.toNat) else Nx.stop (some (aq.panic 131 4, ([] : LHp)))) (fun o => yR 3 (some o)) l o = yR 3 (sqR l o) := by
  intro l
  induction l with
  | nil => intro o; rfl
  | cons a l ih =>
   intro o
   rw [cm, sqR]
   cases o.getD a.toNat 0 == 1 with
   | true => exact ih _
   | false => rfl
 refine (dD (xs := l) (T := fun n s => lp pT iw EO n s KSz) (st := fun (i : Int) (o : ag) => Cv l i o) (f := fun (o : ag) (a : Int) => bif o.getD a.toNat 0 == 1 then Nx.go (nK o a.toNat) else Nx.stop (some (aq.panic 131 4, ([] : LHp)))) (fin := fun (o : ag) => yR 3 (some o)) (fun (i : Nat) (o : ag) => o.length + i = xs.length) (by omega) ?_ ?_ (a := xs) rfl).trans (sc l xs)
 ·intro i o a n hI hi gx gi hw hd
  have gx' := gx
  rw [List.getElem?_eq_getElem hi] at gx'
  have ea := Option.some.inj gx'
  obtain ⟨a0, a1⟩ := xu i hi
  rw [ea] at a0 a1
  have hs := WY l (i : Int) o n KSz
  have g1 : idx o a = some (o.getD a.toNat 0) := yQ a0 (by omega)
  have g2 : o[a.toNat]? = some (o.getD a.toNat 0) := by rw [List.getD_eq_getElem?_getD, List.getElem?_eq_getElem (by omega)]; rfl
  rw [hd, ak, gi, aA, Int.toNat_natCast, gx, aA, g1, aA, g2, aA, aE (show 0 <= a /\ a < Int.ofNat o.length /\ i64.wrap (a + 1) = a + 1 from ⟨a0, by simp only [aT]; omega, aJ (by omega) (by omega)⟩), ak, hw] at hs
  cases c1 : o.getD a.toNat 0 == 1 with
  | true =>
   rw [c1, Bool.not_true, ax] at hs
   exact .inl ⟨_, rfl, by show (nK o a.toNat).length + (i + 1) = _; have := Oq (xs := o) (i := a.toNat) (by omega); omega, hs⟩
  | false =>
   rw [c1, Bool.not_false, ak] at hs
   exact .inr ⟨_, rfl, hs.trans (by kernel_rfl)⟩
 ·intro o n hI hd
  show lp _ _ _ (n + 1) (Cv l (l.length : Int) o) _ = _
  rw [WY, hd, ax]
  show _ = _
  kernel_rfl
theorem agh (l xs : ag) : hlp pT iw EO (aq × LHp) (Cv l 0 xs) KSz = lp pT iw EO fu (Cv l 0 xs) KSz := rfl
def dA (aa : bk) : ag := ai aa dN []
def UQ (aa : bk) (xs : ag) : Option (ag) := bif fD (Int.ofNat (xs.length + (dA aa).length)) (dA aa) [] then some (usR (gX (me (dA aa) (Int.ofNat (xs.length + (dA aa).length)))) xs) else none
def agi (aa : bk) (xs : ag) : Bool := (UQ aa xs).isSome
def agj (aa : bk) (xs : ag) : ag := (UQ aa xs).getD []
def abF : List AV -> LHp -> Tq
 | [.d Y6 ((_, _, _, _, aa, _), _, _), .d zS xs], [] => .br (aD aa) (.br (decide (xs.length <= 6)) (.br (decide ((dA aa).length <= 2147483640)) (TX (agi aa xs) (agj aa xs)) .no) .no) .no
 | _, _ => .no
theorem UR : bE 223 (ao abF) := by
 have h1 := bS (d := 6) (l := [(6, [7, 24, 25, 26])]) Jv func223 call223
 refine aO fun args hs ae aF h' => ?_
 unfold abF at h'
 split at h'
 ·rename_i op nm ins out aa _ vs _ xs
  obtain ⟨hs, h2⟩ := Tq.br_no h'
  obtain ⟨hb, h3⟩ := Tq.br_no h2
  obtain ⟨hL, h4⟩ := Tq.br_no h3
  have hb : xs.length <= 6 := aZ hb
  have hL := aZ hL
  refine h1.okO (.slice af) (Eq.trans ?_ (show (uK (UQ aa xs)).run ah = some (ae, aF) from h4))
  refine Eq.trans (congrArg (dj _) (abB op nm ins out aa vs xs)) ?_
  have es : ai aa jP [] = dA aa := rfl
  have w : i64.wrap (Int.ofNat xs.length + Int.ofNat (dA aa).length) = Int.ofNat (xs.length + (dA aa).length) := by simp only [aT]; rw [aJ (by omega) (by omega)]; omega
  rw [hs, ak, es, aE (show (dA aa).length <= 2147483648 by omega), ak, w, aE (show (me (dA aa) (Int.ofNat (xs.length + (dA aa).length))).length <= 2147483648 by rw [iG]; omega), ak, aE (show xs.length <= 2147483648 by omega), ak, ← jY 3]
  unfold UQ
  cases hq : fD (Int.ofNat (xs.length + (dA aa).length)) (dA aa) [] with
  | false => rfl
  | true =>
   have hnd := (oH hq).1
   have xu := Om (r := Int.ofNat (xs.length + (dA aa).length)) (by simp only [aT]; omega) (by simp only [aT]; omega) hq
   have hlen : (gX (me (dA aa) (Int.ofNat (xs.length + (dA aa).length)))).length = (dA aa).length := by rw [uV, iG]
   have hinc := Cw hnd
   have h9 := (age (gX (me (dA aa) (Int.ofNat (xs.length + (dA aa).length)))) xs).trans (abD hb (by rw [hlen]; exact hL) (by
    intro i hi
    have hmem := xu _ ((lq _).mem_iff.1 (List.getElem_mem hi))
    refine ⟨hmem.1, ?_⟩
    have h5 := On hinc (i := i) ((dA aa).length - 1 - i) (by rw [hlen]; rw [hlen] at hi; omega)
    have h6 : _ < ((xs.length + (dA aa).length : Nat) : Int) := (xu _ ((lq _).mem_iff.1 (List.getElem_mem (show i + ((dA aa).length - 1 - i) < (gX (me (dA aa) (Int.ofNat (xs.length + (dA aa).length)))).length by rw [hlen]; rw [hlen] at hi; omega)))).2
    rw [hlen] at hi
    omega))
   rw [ak, ak]
   exact congrArg (dj (.slice af)) h9
 ·cases h'
noncomputable def agk : FnE := cU [(Y6), .slice af] (ao abF)
theorem US : bE 223 agk := bF UR
def UT (aa : bk) (xs : ag) : Option (ag) := bif fD (Int.ofNat xs.length) (dA aa) [] then sqR (gX (me (dA aa) (Int.ofNat xs.length))).reverse xs else none
def agl (aa : bk) (xs : ag) : Bool := (UT aa xs).isSome
def agm (aa : bk) (xs : ag) : ag := (UT aa xs).getD []
def abG : List AV -> LHp -> Tq
 | [.d Y6 ((_, _, _, _, aa, _), _, _), .d zS xs], [] => .br (aD aa) (.br (decide (xs.length <= 6)) (.br (decide ((dA aa).length <= 2147483640)) (TX (agl aa xs) (agm aa xs)) .no) .no) .no
 | _, _ => .no
theorem UU : bE 222 (ao abG) := by
 have h1 := bS (d := 6) (l := [(6, [6, 21, 22, 23])]) Jw func222 call222
 refine aO fun args hs ae aF h' => ?_
 unfold abG at h'
 split at h'
 ·rename_i op nm ins out aa _ vs _ xs
  obtain ⟨hs, h2⟩ := Tq.br_no h'
  obtain ⟨hb, h3⟩ := Tq.br_no h2
  obtain ⟨hL, h4⟩ := Tq.br_no h3
  have hb : xs.length <= 6 := aZ hb
  have hL := aZ hL
  refine h1.okO (.slice af) (Eq.trans ?_ (show (uK (UT aa xs)).run ah = some (ae, aF) from h4))
  refine Eq.trans (congrArg (dj _) (abC op nm ins out aa vs xs)) ?_
  have es : ai aa jP [] = dA aa := rfl
  rw [hs, ak, es, aE (show (dA aa).length <= 2147483648 by omega), ak, aE (show (me (dA aa) (Int.ofNat xs.length)).length <= 2147483648 by rw [iG]; omega), ak, aE (show (gX (me (dA aa) (Int.ofNat xs.length))).length <= 2147483648 by rw [uV, iG]; omega), ak, aE (show xs.length <= 2147483648 by omega), ak, ← jY 3]
  unfold UT
  cases hq : fD (Int.ofNat xs.length) (dA aa) [] with
  | false => rfl
  | true =>
   have hnd := (oH hq).1
   have xu := Om (r := Int.ofNat xs.length) (by simp only [aT]; omega) (by simp only [aT]; omega) hq
   have hlen : (gX (me (dA aa) (Int.ofNat xs.length))).reverse.length = (dA aa).length := by rw [List.length_reverse, uV, iG]
   have hdec : (gX (me (dA aa) (Int.ofNat xs.length))).reverse.Pairwise (· > ·) := List.pairwise_reverse.2 (Cw hnd)
   have hmem : ∀ i (hi : i < (gX (me (dA aa) (Int.ofNat xs.length))).reverse.length), 0 <= (gX (me (dA aa) (Int.ofNat xs.length))).reverse[i] /\ (gX (me (dA aa) (Int.ofNat xs.length))).reverse[i] < Int.ofNat xs.length := fun i hi => xu _ ((lq _).mem_iff.1 (List.mem_reverse.1 (List.getElem_mem hi)))
   have h9 := (agh (gX (me (dA aa) (Int.ofNat xs.length))).reverse xs).trans (abE hb (by rw [hlen]; exact hL) (by
    intro i hi
    refine ⟨(hmem i hi).1, ?_⟩
    have h5 := Oo hdec i hi
    have h6 : _ < (xs.length : Int) := (hmem 0 (by omega)).2
    omega))
   rw [ak, ak]
   exact congrArg (dj (.slice af)) h9
 ·cases h'
noncomputable def agn : FnE := cU [(Y6), .slice af] (ao abG)
theorem UW : bE 222 agn := bF UU
def abH : List AV -> LHp -> Tq
 | [.os 0 0], [(0, .arr 31 zS 0 false [l1, l2, l3])] => .br (decide (l1.length + l2.length + l3.length <= 65536)) (.leaf (.ret [.os 1 0]) [(0, .arr 31 (.slice af) 0 false [l1, l2, l3]), (1, .arr 3 af 0 false (l1 ++ l2 ++ l3))]) .no
 | _, _ => .no
theorem UX : bE 220 (ao abH) := by
 have h1 : bE 220 (au e13 f220 6 [(3, [0, 3, 9, 10, 11]), (11, [6, 25, 26, 27])]) := yw
 refine aO fun args hs ae aF h' => ?_
 unfold abH at h'
 split at h'
 ·obtain ⟨hb, h3⟩ := Tq.br_no h'
  cases h3
  exact h1.okC (FG _ _ _ (aZ hb))
 ·cases h'
noncomputable def abI : Env := (((((((((((((sa.add 25 uC).add 149 (ao IY)).add 59 (ao uq)).add 148 Uy).add 215 TP).add 216 afC).add 219 afx).add 218 afY).add 217 agb).add 221 afS).add 224 af2).add 223 agk).add 222 agn).add 220 (ao abH)
theorem Jx : abI.Good := (((((((((((((dR.add iF).add sh).add jm).add y5).add yP).add T5).add TZ).add Ut).add UJ).add Uq).add Uw).add US).add UW).add UX
theorem abJ (op nm : aj) (ins : List (aj)) (out : aj) (aa : bk) (vs : cg) (xs : ag) : aC abI f155 7 [] [gu (op, nm, ins, out, aa, ()) vs, .d (.slice af) xs] [] ah = bif op == Ir then bif aD aa then bif decide (xs.length <= 2147483648) then bif afA aa xs then ay [AV.d (af).slice (afB aa xs)] else aV else none else none else bif op == Is then bif aD aa then bif aD aa then bif cy (Int.ofNat (ai aa rD []).length) 1 9223372036854775807 (ai aa rD []) then bif decide (xs.length <= 2147483648 /\ (ai aa rD []).length <= 2147483648) then bif fC xs (ai aa rD []) == 0 then ay [AV.d (af).slice (jr xs (ai aa rD []))] else some (aq.panic 131 (fC xs (ai aa rD [])), []) else none else aV else none else none else bif op == It then bif aD aa then bif decide (xs.length <= 6) then bif UH aa xs then ay [AV.d (af).slice (aga aa xs)] else aV else none else none else bif op == Iu then bif aD aa then bif decide (xs.length <= 2147483648) then bif decide (1 <= vs.length /\ vs.length <= 2147483648) then bif afW aa vs xs then ay [AV.d (af).slice (afX aa vs xs)] else aV else none else none else none else bif op == Iv then bif aD aa then bif decide (xs.length <= 2147483648) then bif afv aa xs then ay [AV.d (af).slice (afw aa xs)] else aV else none else none else bif op == vG then bif decide (aa.length <= 9223372036854775807) then bif vI (aX aa fR 0) (Int.ofNat xs.length) then (if (0 : Int) <= 0 /\ 0 <= lD (aX aa fR 0) (Int.ofNat xs.length) /\ lD (aX aa fR 0) (Int.ofNat xs.length) <= Int.ofNat xs.length then some (List.drop 0 (List.take (lD (aX aa fR 0) (Int.ofNat xs.length)).toNat xs)) else none).bind fun v8 => (idx vs 1).bind fun v9 => (if 0 <= i64.wrap (lD (aX aa fR 0) (Int.ofNat xs.length) + 1) /\ i64.wrap (lD (aX aa fR 0) (Int.ofNat xs.length) + 1) <= Int.ofNat xs.length /\ Int.ofNat xs.length <= Int.ofNat xs.length then some (List.drop (i64.wrap (lD (aX aa fR 0) (Int.ofNat xs.length) + 1)).toNat (List.take (Int.ofNat xs.length).toNat xs)) else none).bind fun v10 => bif decide (v8.length + List.length v9.2.2.1 + v10.length <= 65536) then some (aq.ret [AV.os 0 0], [(0, al.arr 3 (af) 0 false (v8 ++ v9.2.2.1 ++ v10))]) else none else aV else none else bif op == [80, 97, 100] then bif aD aa then bif decide (xs.length <= 2147483648) then bif afQ aa xs then ay [AV.d (af).slice (afR aa xs)] else aV else none else none else bif op == Iw then bif aD aa then bif decide (xs.length <= 6) then bif decide ((dA aa).length <= 2147483640) then bif agl aa xs then ay [AV.d (af).slice (agm aa xs)] else aV else none else none else none else bif op == Ix then bif aD aa then bif decide (xs.length <= 6) then bif decide ((dA aa).length <= 2147483640) then bif agi aa xs then ay [AV.d (af).slice (agj aa xs)] else aV else none else none else none else bif aD aa then bif decide (xs.length <= 2147483648) then bif af0 aa xs then ay [AV.d (af).slice (af1 aa xs)] else aV else none else none := by kernel_rfl
noncomputable def G0 : Code := bD f105
noncomputable def Cx : Code := cL (cL (cR (cL (cR (cL (cR (cR (cR (cR (cR (cR (cR (cR (cR (cR (cR (cR (cR (cR (cR (cR (cR (cR (cR (cR (cR (cL (cR (cL (cR (cR (cR G0))))))))))))))))))))))))))))))))
noncomputable def ago : Code := cR (cR (cL (cR (cR (cR (cR (cR (cR (cR (cR (cR (cR (cR (cR (cR (cR (cR (cR (cR (cR (cR (cR (cR (cL (cR (cL (cR (cR (cR G0)))))))))))))))))))))))))))))
noncomputable def eI : Cfg := ⟨149, 8, 0, [(56, [3, 132, 133, 134])], true⟩
noncomputable def zd (r : Option (aq × LHp)) : Option (Int × ag) := match dj (.slice af) r with
 | some (.ret [.d (.slice (.int .i64)) l], []) => some (0, l)
 | some (.panic t c, []) => bif Nat.beq t 131 && !(c == 0) then some (c, []) else none
 | _ => none
theorem Cy {r : Option (aq × LHp)} {p : Int × ag} (h : zd r = some p) : dj (.slice af) r = (y4 p.1 p.2).run ah := by
 unfold zd at h
 split at h
 ·rename_i l hq
  cases h
  exact hq
 ·rename_i t c hq
  cases hb : Nat.beq t 131 && !(c == 0) with
  | false => rw [hb] at h; cases h
  | true =>
   rw [hb] at h
   cases h
   rw [bg] at hb
   have ht := bo hb.1
   subst ht
   rw [hq, Cq]
   have : (c == 0) = false := by simpa using hb.2
   show _ = (bif c == 0 then _ else _)
   rw [this]
   rfl
 ·cases h
abbrev dL := aj × aj × List (aj) × aj × bk × Unit
noncomputable def mvR (n : dL) (vs : cg) (xs : ag) : Option (Int × ag) := zd (aC abI f155 7 [] [gu n vs, .d (.slice af) xs] [] ah)
noncomputable def mvG (n : dL) (vs : cg) (xs : ag) : Bool := (mvR n vs xs).isSome
noncomputable def mvC (n : dL) (vs : cg) (xs : ag) : Int := ((mvR n vs xs).getD (0, [])).1
noncomputable def mvL (n : dL) (vs : cg) (xs : ag) : ag := ((mvR n vs xs).getD (0, [])).2
noncomputable def abK : List AV -> LHp -> Tq
 | [.d Y6 (n, vs, _), .d zS xs], [] => .br (mvG n vs xs) (y4 (mvC n vs xs) (mvL n vs xs)) .no
 | _, _ => .no
theorem UY : bE 155 (ao abK) := by
 have h1 := bS (d := 7) (l := []) Jx func155 call155
 refine aO fun args hs ae aF h' => ?_
 unfold abK at h'
 split at h'
 ·rename_i n vs _ xs
  obtain ⟨hb, h2⟩ := Tq.br_no h'
  refine h1.okO (.slice af) (Eq.trans ?_ h2)
  unfold mvG at hb
  unfold mvC mvL
  cases hq : mvR n vs xs with
  | none => rw [hq] at hb; cases hb
  | some p => exact Cy hq
 ·cases h'
noncomputable def agq : FnE := cU [(Y6), .slice af] (ao abK)
theorem UZ : bE 155 agq := bF UY
noncomputable def agr : FnE := cU [(Y6), .slice af] (Ek (.slice af) (ao aaV))
noncomputable def ags : FnE := cU [(Y6), .slice af] (Ek (.slice af) (ao abb))
noncomputable def agt : FnE := cU [.slice af, .slice af] (ao NV)
theorem U0 : bE 153 agr := bF (sd Uc)
theorem U1 : bE 154 ags := bF (sd Un)
theorem U2 : bE 77 agt := bF yT
noncomputable def j0 : Env := ((((((((((sa.add 155 agq).add 149 (ao IY)).add 59 (ao uq)).add 148 Uy).add 150 afp).add 151 abp).add 152 af7).add 153 agr).add 154 ags).add 77 agt).add 145 (ao Uh)
theorem Jy : j0.Good := ((((((((((dR.add UZ).add sh).add jm).add y5).add TS).add GU).add UF).add U0).add U1).add U2).add GQ
noncomputable def fp (vs : cg) (hO : Y3.den) : Option (aq × LHp) := (idx vs 1).bind fun vP => bif decide (List.length hO.2.2.1 <= 2147483648 /\ List.length vP.2.2.1 <= 2147483648) then bif fC hO.2.2.1 vP.2.2.1 == 0 then ay [AV.d (af).slice (jr hO.2.2.1 vP.2.2.1)] else some (aq.panic 131 (fC hO.2.2.1 vP.2.2.1), []) else none
noncomputable def ze (aa : bk) (hO : Y3.den) : Option (aq × LHp) := bif aD aa then bif cy 2 1 100 (ai aa fS []) then bif Int.ofNat (List.length hO.2.2.1) == 4 then bif lS aa hO.2.2.1 (ai aa fS []) then bif dM aa hO.2.2.1 (ai aa fS []) == 0 then bif n6 (ai aa fS []) 0 (ai aa cW []) then ay [AV.d (af).slice [List.getD hO.2.2.1 0 0, List.getD hO.2.2.1 1 0, lg aa hO.2.2.1 (ai aa fS []), lh aa hO.2.2.1 (ai aa fS [])]] else aV else some (aq.panic 131 (dM aa hO.2.2.1 (ai aa fS [])), []) else none else aV else aV else none
noncomputable def pU (op : aj) (aa : bk) (hO : Y3.den) : Option (aq × LHp) := bif aD aa then bif decide (List.length hO.2.2.1 <= 2147483648) then bif TQ op aa hO.2.2.1 then ay [AV.d (af).slice (aay op aa hO.2.2.1)] else aV else none else none
noncomputable def eY (hO : Y3.den) : Option (aq × LHp) := ay [AV.d (af).slice hO.2.2.1]
theorem uW (op nm : aj) (ins : List (aj)) (out : aj) (aa : bk) (vs : cg) : aC j0 f105 8 [(56, [3, 132, 133, 134])] [gu (op, nm, ins, out, aa, ()) vs] [] ah = bif op == tZ then bif decide (aa.length <= 9223372036854775807) then (List.find? gj aa).bind fun v2 => ay [AV.d (af).slice v2.2.2.2.2.2.1.2.1] else none else (idx vs 0).bind fun v1 => bif op == QL then eY v1 else bif op == Lj then eY v1 else bif op == Iz then eY v1 else bif op == [78, 111, 116] then eY v1 else bif op == QG then eY v1 else bif op == QH then eY v1 else bif op == QI then eY v1 else bif op == [69, 120, 112] then eY v1 else bif op == QJ then eY v1 else bif op == QK then eY v1 else bif op == Ld then eY v1 else bif op == D9 then eY v1 else bif op == K8 then fp vs v1 else bif op == QD then fp vs v1 else bif op == K9 then fp vs v1 else bif op == La then fp vs v1 else bif op == Lb then fp vs v1 else bif op == QE then fp vs v1 else bif op == V9 then fp vs v1 else bif op == [79, 114] then fp vs v1 else bif op == Wa then fp vs v1 else bif op == vF then fp vs v1 else bif op == ym then fp vs v1 else bif op == yo then fp vs v1 else bif op == tY then (idx vs 1).bind fun v27 => bif decide (List.length v1.2.2.1 <= 2147483648 /\ List.length v27.2.2.1 <= 2147483648) then bif fC v1.2.2.1 v27.2.2.1 == 0 then (idx vs 2).bind fun v30 => bif decide ((jr v1.2.2.1 v27.2.2.1).length <= 2147483648 /\ List.length v30.2.2.1 <= 2147483648) then bif fC (jr v1.2.2.1 v27.2.2.1) v30.2.2.1 == 0 then ay [AV.d (af).slice (jr (jr v1.2.2.1 v27.2.2.1) v30.2.2.1)] else some (aq.panic 131 (fC (jr v1.2.2.1 v27.2.2.1) v30.2.2.1), []) else none else (idx vs 2).bind fun v30 => some (aq.panic 131 (fC v1.2.2.1 v27.2.2.1), []) else none else bif op == Lh then bif decide (aa.length <= 9223372036854775807) then bif vI (aX aa fR (-1)) (Int.ofNat (List.length v1.2.2.1)) then eY v1 else aV else none else bif op == Ea then pU op aa v1 else bif op == Eb then pU op aa v1 else bif op == Lf then pU op aa v1 else bif op == yq then pU op aa v1 else bif op == Lc then (idx vs 1).bind fun v33 => bif decide (List.length v1.2.2.1 <= 2147483648 /\ List.length v33.2.2.1 <= 2147483648) then bif y6 v1.2.2.1 v33.2.2.1 == 0 then ay [AV.d (af).slice (pO v1.2.2.1 v33.2.2.1)] else some (aq.panic 131 (y6 v1.2.2.1 v33.2.2.1), []) else none else bif op == Iy then bif aD aa then bif decide (2 <= vs.length) then bif uP vs then bif UD aa vs == 0 then ay [AV.d (af).slice (pP aa vs)] else some (aq.panic 131 (UD aa vs), []) else none else none else none else bif op == vH then bif vL aa vs v1.2.2.1 then bif oF aa vs v1.2.2.1 then ay [AV.d (af).slice (yV aa vs v1.2.2.1)] else some (aq.panic 131 (rH aa vs v1.2.2.1), []) else none else bif op == rC then ze aa v1 else bif op == Ec then ze aa v1 else bif op == XJ then bif !Int.ofNat (List.length v1.2.2.1) == 4 then aV else (idx v1.2.2.1 0).bind fun v39 => (idx v1.2.2.1 1).bind fun v40 => some (aq.ret [AV.os 0 0], [(0, al.arr 3 (af) 0 false [v39, v40, 1, 1])]) else bif op == Li then bif !decide (Int.ofNat (List.length v1.2.2.1) >= 2) then aV else (if (0 : Int) <= 1 /\ 1 <= Int.ofNat vs.length /\ Int.ofNat vs.length <= Int.ofNat vs.length then some (List.drop 1 (List.take (Int.ofNat vs.length).toNat vs)) else none).bind fun v40 => (hlp j0 eI) Cx _ { fr := aw 8 [(3, AV.d (af).slice v1.2.2.1), (132, AV.d Y3.slice v40), (133, I (Int.ofNat v40.length)), (134, I 0)], hp := [], nx := 0 } (aW 1 (bt j0 eI [56] (hlp j0 eI) ago (aW 0 (bt j0 eI [56] (hlp j0 eI) (cR (cR (cR (cR G0)))) (bA prog 0 f105.results.toList ah))))) else bif mvG (op, nm, ins, out, aa, PUnit.unit) vs v1.2.2.1 then bif mvC (op, nm, ins, out, aa, PUnit.unit) vs v1.2.2.1 == 0 then ay [AV.d (af).slice (mvL (op, nm, ins, out, aa, PUnit.unit) vs v1.2.2.1)] else some (aq.panic 131 (mvC (op, nm, ins, out, aa, PUnit.unit) vs v1.2.2.1), []) else none := (bI [56] eI rfl).trans (by obtain ⟨hl, h⟩ := bw j0 eI; rw [h]; kernel_rfl)
noncomputable def EP (n : dL) (vs : cg) : Option (Int × ag) := zd (aC j0 f105 8 [(56, [3, 132, 133, 134])] [gu n vs] [] ah)
noncomputable def Ot (n : dL) (vs : cg) : Bool := (EP n vs).isSome
noncomputable def zf (n : dL) (vs : cg) : Int := ((EP n vs).getD (0, [])).1
noncomputable def j6 (n : dL) (vs : cg) : ag := ((EP n vs).getD (0, [])).2
noncomputable def abL : List AV -> LHp -> Tq
 | [.d Y6 (n, vs, _)], [] => .br (Ot n vs) (y4 (zf n vs) (j6 n vs)) .no
 | _, _ => .no
theorem U3 : bE 105 (ao abL) := by
 have h1 := bS (d := 8) (l := [(56, [3, 132, 133, 134])]) Jy func105 call105
 refine aO fun args hs ae aF h' => ?_
 unfold abL at h'
 split at h'
 ·rename_i n vs _
  obtain ⟨hb, h2⟩ := Tq.br_no h'
  refine h1.okO (.slice af) (Eq.trans ?_ h2)
  unfold Ot at hb
  unfold zf j6
  cases hq : EP n vs with
  | none => rw [hq] at hb; cases hb
  | some p => exact Cy hq
 ·cases h'
noncomputable def agu : FnE := cU [(Y6)] (ao abL)
theorem U4 : bE 105 agu := bF U3
def abM : List AV -> LHp -> Tq
 | [.d zS xs], [] => .leaf (.ret [I (aR xs), I (aB xs)]) []
 | _, _ => .no
theorem U5 : bE 60 (ao abM) := by
 refine aO fun args hs ae aF h' => ?_
 unfold abM at h'
 split at h'
 ·rename_i xs
  refine FnH.len call60 fun hl => qA.ok _ _ _ _ ?_
  have h1 : xs.length <= maxLen := hl (.int .i64) xs (List.mem_singleton.2 rfl)
  have h2 : (Tq.br (decide (xs.length <= maxLen)) (.leaf (.ret [I (aR xs), I (aB xs)]) []) .no).run ah = some (ae, aF) := by
   rw [aE h1]
   exact h'
  exact h2
 ·cases h'
noncomputable def nL : Env := (((((sa.add 102 (ao M7)).add 104 (cU [(Y6)] (ao aa2))).add 105 agu).add 106 (cU [(Y6), af] (ao aa7))).add 107 (ao Cb)).add 60 (ao abM)
theorem qG : nL.Good := (((((dR.add M8).add (bF Uj)).add U4).add (bF Ul)).add nt).add U5
noncomputable def ouR : FnE := pg nL f58 7 [(5, [1, 2, 4, 5, 26, 27, 28])] IK
theorem Ou : bE 58 ouR := A6 qG (D2 (D := IK) qG bX func58 call58 rfl rfl (by decide +kernel) rfl func100 call100 rfl rfl (by decide +kernel))
noncomputable def Ov : Code := bD f58
noncomputable def ER : Code := cL (cL (cR (cL (cR (cR (cR (cR Ov)))))))
noncomputable def kL : Cfg := ⟨69, 7, 3, [(5, [1, 2, 4, 5, 26, 27, 28])], false⟩
theorem agv (hl : Hl) (op nm : aj) (ins : List (aj)) (out : aj) (aa : bk) (vs : cg) : yC nL f58 7 [(5, [1, 2, 4, 5, 26, 27, 28])] IK 3 [5] hl [dh op nm ins out aa, .d (.slice (Y3)) vs] [] ah = bif decide (ins.length <= 9223372036854775807) && (aD aa && mO aa) then bif B8 op ins out aa != 0 then ay [(AV.d Ty.str []).pr ((I 0).pr (AV.nils.pr (AV.d Ty.unit PUnit.unit))), I (B8 op ins out aa)] else bif !Int.ofNat vs.length == Int.ofNat ins.length then ay [(AV.d Ty.str []).pr ((I 0).pr (AV.nils.pr (AV.d Ty.unit PUnit.unit))), I 4] else hl ER _ { fr := aw 7 [(1, AV.d Y3.slice vs), (2, AV.op 0 [] 0), (4, AV.op 1 [] 0), (5, AV.op 2 [] 0), (26, AV.d Y3.slice vs), (27, I (Int.ofNat vs.length)), (28, I 0)], hp := [(0, al.box (AV.d Y2 (op, nm, ins, out, aa, PUnit.unit))), (1, al.box ((AV.d Ty.str []).pr ((I 0).pr (AV.nils.pr (AV.d Ty.unit PUnit.unit))))), (2, al.box (I 0))], nx := 6 } (aW 0 (bt nL kL [5] hl (cR (cR (cR (cR (cR Ov))))) (wQ nL IK (cR (bD f100)) 0 f58.results.toList [.op 1 [] 0, .op 2 [] 0] ah))) else none := by kernel_rfl
noncomputable def KOu : AEx -> LSt -> Option (aq × LHp) := (aW 0 (bt nL kL [5] (hlp nL kL) (cR (cR (cR (cR (cR Ov))))) (wQ nL IK (cR (bD f100)) 0 f58.results.toList [.op 1 [] 0, .op 2 [] 0] ah)))
def agw (n : dL) : LHp := [(0, .box (.d (Y2) n)), (1, .box ((AV.d Ty.str []).pr ((I 0).pr (AV.nils.pr (AV.d Ty.unit PUnit.unit))))), (2, .box (I 0))]
def ES (n : dL) (vs : cg) (i : Int) : LSt := { fr := aw 7 [(1, .d (.slice (Y3)) vs), (2, .op 0 [] 0), (4, .op 1 [] 0), (5, .op 2 [] 0), (26, .d (.slice (Y3)) vs), (27, I (Int.ofNat vs.length)), (28, I i)], hp := agw n, nx := 6 }
theorem agx (op nm : aj) (ins : List (aj)) (out : aj) (aa : bk) (vs : cg) (i : Int) (n : Nat) {R : Type} (k : AEx -> LSt -> Option R) : lp nL kL ER (n + 1) (ES (op, nm, ins, out, aa, ()) vs i) k = bif decide (i < Int.ofNat vs.length) then (idx vs i).bind fun v1 => bif !bz v1.2.1 0 then k AEx.ret { fr := aw 7 [(1, AV.d Y3.slice vs), (2, AV.op 0 [] 0), (4, AV.op 1 [] 0), (5, AV.op 2 [] 0), (7, AV.op 6 [] 0), (26, AV.d Y3.slice vs), (27, I (Int.ofNat vs.length)), (28, I i), (29, B true), (30, AV.ip Y3 v1), (31, AV.d Y3 v1), (32, AV.op 6 [1] 1), (33, I v1.2.1), (34, B (bz v1.2.1 0)), (35, B true), (36, (AV.d Ty.str []).pr ((I 0).pr (AV.nils.pr (AV.d Ty.unit PUnit.unit))))], hp := [(2, al.box (I 5)), (1, al.box ((AV.d Ty.str []).pr ((I 0).pr (AV.nils.pr (AV.d Ty.unit PUnit.unit))))), (6, al.box (AV.d Y3 v1)), (6, al.box ((AV.d Ty.str []).pr ((I 0).pr (AV.nils.pr (AV.d Ty.unit PUnit.unit))))), (0, al.box (AV.d Y2 (op, nm, ins, out, aa, PUnit.unit))), (1, al.box ((AV.d Ty.str []).pr ((I 0).pr (AV.nils.pr (AV.d Ty.unit PUnit.unit))))), (2, al.box (I 0))], nx := 7 } else bif aB v1.2.2.1 != 0 then k (AEx.panic 131 (aB v1.2.2.1)) { fr := aw 7 [(1, AV.d Y3.slice vs), (2, AV.op 0 [] 0), (4, AV.op 1 [] 0), (5, AV.op 2 [] 0), (7, AV.op 6 [] 0), (8, I (aR v1.2.2.1)), (9, I (aB v1.2.2.1)), (26, AV.d Y3.slice vs), (27, I (Int.ofNat vs.length)), (28, I i), (29, B true), (30, AV.ip Y3 v1), (31, AV.d Y3 v1), (32, AV.op 6 [1] 1), (33, I v1.2.1), (34, B (bz v1.2.1 0)), (35, B false), (37, AV.tup [I (aR v1.2.2.1), I (aB v1.2.2.1)]), (38, AV.op 6 [2] 2), (39, AV.d (af).slice v1.2.2.1), (40, AV.tup [I (aR v1.2.2.1), I (aB v1.2.2.1)]), (41, I (aR v1.2.2.1)), (42, I (aB v1.2.2.1)), (43, I (aB v1.2.2.1))], hp := [(6, al.box (AV.d Y3 v1)), (6, al.box ((AV.d Ty.str []).pr ((I 0).pr (AV.nils.pr (AV.d Ty.unit PUnit.unit))))), (0, al.box (AV.d Y2 (op, nm, ins, out, aa, PUnit.unit))), (1, al.box ((AV.d Ty.str []).pr ((I 0).pr (AV.nils.pr (AV.d Ty.unit PUnit.unit))))), (2, al.box (I 0))], nx := 7 } else lp nL kL ER n (ES (op, nm, ins, out, aa, ()) vs (i64.wrap (i + 1))) k else k (AEx.exit 0) { fr := aw 7 [(1, AV.d Y3.slice vs), (2, AV.op 0 [] 0), (4, AV.op 1 [] 0), (5, AV.op 2 [] 0), (26, AV.d Y3.slice vs), (27, I (Int.ofNat vs.length)), (28, I i), (29, B false)], hp := [(0, al.box (AV.d Y2 (op, nm, ins, out, aa, PUnit.unit))), (1, al.box ((AV.d Ty.str []).pr ((I 0).pr (AV.nils.pr (AV.d Ty.unit PUnit.unit))))), (2, al.box (I 0))], nx := 6 } := by kernel_rfl
theorem aiE (op nm : aj) (ins : List (aj)) (out : aj) (aa : bk) (vs : cg) (i : Int) : KOu (.exit 0) { fr := aw 7 [(1, .d (.slice (Y3)) vs), (2, .op 0 [] 0), (4, .op 1 [] 0), (5, .op 2 [] 0), (26, .d (.slice (Y3)) vs), (27, I (Int.ofNat vs.length)), (28, I i), (29, B false)], hp := agw (op, nm, ins, out, aa, ()), nx := 6 } = bif yX op aa vs then bif mR op aa vs == 0 then bif Ot (op, nm, ins, out, aa, PUnit.unit) vs then bif zf (op, nm, ins, out, aa, PUnit.unit) vs == 0 then bif aB (j6 (op, nm, ins, out, aa, PUnit.unit) vs) != 0 then ay [(AV.d Ty.str []).pr ((I 0).pr (AV.nils.pr (AV.d Ty.unit PUnit.unit))), I (aB (j6 (op, nm, ins, out, aa, PUnit.unit) vs))] else bif aD aa then bif kK aa (pN op aa vs) then bif decide ((j6 (op, nm, ins, out, aa, PUnit.unit) vs).length <= 2147483648) then some (aq.ret [(AV.d Ty.str out).pr ((I (pN op aa vs)).pr ((AV.os 0 0).pr (AV.d Ty.unit PUnit.unit))), I 0], [(0, al.arr 3 (af) 0 false (j6 (op, nm, ins, out, aa, PUnit.unit) vs))]) else none else ay [(AV.d Ty.str []).pr ((I 0).pr (AV.nils.pr (AV.d Ty.unit PUnit.unit))), I 4] else none else ay [(AV.d Ty.str []).pr ((I 0).pr (AV.nils.pr (AV.d Ty.unit PUnit.unit))), I (zf (op, nm, ins, out, aa, PUnit.unit) vs)] else none else ay [(AV.d Ty.str []).pr ((I 0).pr (AV.nils.pr (AV.d Ty.unit PUnit.unit))), I (mR op aa vs)] else none := by kernel_rfl
def zg : cg -> Int
 | [] => 0
 | v :: r => bif !bz v.2.1 0 then 5 else bif aB v.2.2.1 != 0 then aB v.2.2.1 else zg r
def zvO : AV := (AV.d Ty.str []).pr ((I 0).pr (AV.nils.pr (AV.d Ty.unit PUnit.unit)))
def C9 (c : Int) : Option (aq × LHp) := some (.ret [zvO, I c], [])
noncomputable def ouX (op nm : aj) (ins : List (aj)) (out : aj) (aa : bk) (vs : cg) : Option (aq × LHp) :=
 bif yX op aa vs then (bif mR op aa vs == 0 then (bif Ot (op, nm, ins, out, aa, ()) vs then (bif zf (op, nm, ins, out, aa, ()) vs == 0 then (bif aB (j6 (op, nm, ins, out, aa, ()) vs) != 0 then C9 (aB (j6 (op, nm, ins, out, aa, ()) vs)) else (bif aD aa then (bif kK aa (pN op aa vs) then (bif decide ((j6 (op, nm, ins, out, aa, ()) vs).length <= 2147483648) then some (aq.ret [(AV.d Ty.str out).pr ((I (pN op aa vs)).pr ((AV.os 0 0).pr (AV.d Ty.unit PUnit.unit))), I 0], [(0, al.arr 3 af 0 false (j6 (op, nm, ins, out, aa, ()) vs))]) else none) else C9 4) else none)) else C9 (zf (op, nm, ins, out, aa, ()) vs)) else none) else C9 (mR op aa vs)) else none
theorem agz {op nm : aj} {ins : List (aj)} {out : aj} {aa : bk} {vs : cg} (hl : vs.length <= 2147483648) : lp nL kL ER fu (ES (op, nm, ins, out, aa, ()) vs 0) KOu = bif zg vs != 0 then C9 (zg vs) else ouX op nm ins out aa vs := by
 have hm : maxLen = 9223372036854775807 := by decide
 have sc : ∀ (l : cg), cm (fun (_ : Unit) (v : (Y3).den) => bif !bz v.2.1 0 then Nx.stop (C9 5) else bif aB v.2.2.1 != 0 then Nx.stop (C9 (aB v.2.2.1)) else Nx.go ()) (fun _ => ouX op nm ins out aa vs) l () = bif zg l != 0 then C9 (zg l) else ouX op nm ins out aa vs := by
  intro l
  induction l with
  | nil => rfl
  | cons v l ih =>
   rw [cm, zg]
   cases bz v.2.1 0 with
   | false => rfl
   | true =>
    rw [Bool.not_true, ax, ax]
    cases h : aB v.2.2.1 != 0 with
    | true => rw [ak, ak, h]; rfl
    | false => rw [ax, ax]; exact ih
 refine (dD (xs := vs) (T := fun n s => lp nL kL ER n s KOu) (st := fun (i : Int) (_ : Unit) => ES (op, nm, ins, out, aa, ()) vs i) (f := fun (_ : Unit) (v : (Y3).den) => bif !bz v.2.1 0 then Nx.stop (C9 5) else bif aB v.2.2.1 != 0 then Nx.stop (C9 (aB v.2.2.1)) else Nx.go ()) (fin := fun (_ : Unit) => ouX op nm ins out aa vs) (fun (_ : Nat) (_ : Unit) => True) (by omega) ?_ ?_ (a := ()) trivial).trans (sc vs)
 ·intro i _ v n _ hi gx gi hw hd
  have hs := agx op nm ins out aa vs (i : Int) n KOu
  rw [hd, ak, gi, aA] at hs
  cases c1 : bz v.2.1 0 with
  | false =>
   rw [c1, Bool.not_false, ak] at hs
   exact .inr ⟨_, rfl, hs.trans (by kernel_rfl)⟩
  | true =>
   rw [c1, Bool.not_true, ax] at hs
   simp only [Bool.not_true, ax]
   cases c2 : aB v.2.2.1 != 0 with
   | true =>
    rw [c2, ak] at hs
    exact .inr ⟨_, rfl, hs.trans (by kernel_rfl)⟩
   | false =>
    rw [c2, ax, hw] at hs
    exact .inl ⟨(), rfl, trivial, hs⟩
 ·intro _ n _ hd
  show lp _ _ _ (n + 1) (ES (op, nm, ins, out, aa, ()) vs (vs.length : Int)) _ = _
  rw [agx, hd, ax]
  exact aiE op nm ins out aa vs (vs.length : Int)
theorem aiF (n : dL) (vs : cg) : hlp nL kL ER (aq × LHp) (ES n vs 0) KOu = lp nL kL ER fu (ES n vs 0) KOu := rfl
noncomputable def ET (n : dL) (vs : cg) : Int := bif B8 n.1 n.2.2.1 n.2.2.2.1 n.2.2.2.2.1 != 0 then B8 n.1 n.2.2.1 n.2.2.2.1 n.2.2.2.2.1 else bif !(Int.ofNat vs.length == Int.ofNat n.2.2.1.length) then 4 else bif zg vs != 0 then zg vs else bif mR n.1 n.2.2.2.2.1 vs == 0 then (bif zf n vs == 0 then (bif aB (j6 n vs) != 0 then aB (j6 n vs) else bif kK n.2.2.2.2.1 (pN n.1 n.2.2.2.2.1 vs) then 0 else 4) else zf n vs) else mR n.1 n.2.2.2.2.1 vs
noncomputable def PS (n : dL) (vs : cg) : Bool := (decide (n.2.2.1.length <= 2147483648) && (aD n.2.2.2.2.1 && mO n.2.2.2.2.1)) && ((B8 n.1 n.2.2.1 n.2.2.2.1 n.2.2.2.2.1 != 0 || (!(Int.ofNat vs.length == Int.ofNat n.2.2.1.length) || (zg vs != 0 || (yX n.1 n.2.2.2.2.1 vs && (!(mR n.1 n.2.2.2.2.1 vs == 0) || Ot n vs))))))
noncomputable def Ow (n : dL) (vs : cg) : (Y3).den := bif ET n vs == 0 then (n.2.2.2.1, pN n.1 n.2.2.2.2.1 vs, j6 n vs, ()) else ([], 0, [], ())
def U6 (r : Option (aq × LHp)) : Option (aq × LHp) := match r with
 | some (ae, aF) => bif gH aF then BW [(Y3), af] ah aF ae else none
 | none => none
theorem U7 (out : aj) (t : Int) (l : ag) : U6 (some (aq.ret [(AV.d Ty.str out).pr ((I t).pr ((AV.os 0 0).pr (AV.d Ty.unit PUnit.unit))), I 0], [(0, al.arr 3 af 0 false l)])) = some (.ret [.d (Y3) ((out, t, l, ()) : (Y3).den), I 0], []) := rfl
theorem pV {c : Int} (h : (c != 0) = true) : (c == 0) = false := by
 simpa using h
theorem abN {op nm : aj} {ins : List (aj)} {out : aj} {aa : bk} {vs : cg} (hg : PS (op, nm, ins, out, aa, ()) vs = true) :
  ∃ p, yC nL f58 7 [(5, [1, 2, 4, 5, 26, 27, 28])] IK 3 [5] (hlp nL kL) [dh op nm ins out aa, .d (.slice (Y3)) vs] [] ah = some p /\ U6 (some p) = some (.ret [.d (Y3) (Ow (op, nm, ins, out, aa, ()) vs), I (ET (op, nm, ins, out, aa, ()) vs)], []) := by
 unfold PS at hg
 simp only [bg] at hg
 obtain ⟨⟨g1, g2, g3⟩, g5⟩ := hg
 have g1 : ins.length <= 2147483648 := aZ g1
 have er : ∀ {c : Int}, (c == 0) = false -> ET (op, nm, ins, out, aa, ()) vs = c -> U6 (C9 c) = some (.ret [.d (Y3) (Ow (op, nm, ins, out, aa, ()) vs), I (ET (op, nm, ins, out, aa, ()) vs)], []) := fun hc he => by
  unfold Ow
  rw [he, hc]
  rfl
 rw [agv, aE (show ins.length <= 9223372036854775807 by omega), g2, g3, Bool.and_self, Bool.and_self, ak]
 have eC : ET (op, nm, ins, out, aa, ()) vs = bif B8 op ins out aa != 0 then B8 op ins out aa else bif !(Int.ofNat vs.length == Int.ofNat ins.length) then 4 else bif zg vs != 0 then zg vs else bif mR op aa vs == 0 then (bif zf (op, nm, ins, out, aa, ()) vs == 0 then (bif aB (j6 (op, nm, ins, out, aa, ()) vs) != 0 then aB (j6 (op, nm, ins, out, aa, ()) vs) else bif kK aa (pN op aa vs) then 0 else 4) else zf (op, nm, ins, out, aa, ()) vs) else mR op aa vs := rfl
 cases c1 : B8 op ins out aa != 0 with
 | true =>
  rw [c1, ak] at eC
  exact ⟨_, rfl, er (pV c1) eC⟩
 | false =>
  rw [c1, ax] at eC
  cases c2 : Int.ofNat vs.length == Int.ofNat ins.length with
  | false =>
   rw [c2, Bool.not_false, ak] at eC
   exact ⟨_, rfl, er rfl eC⟩
  | true =>
   rw [c2, Bool.not_true, ax] at eC
   have hlen : vs.length <= 2147483648 := by
    have := eq_of_beq c2
    simp only [aT] at this
    omega
   have h9 := (aiF (op, nm, ins, out, aa, ()) vs).trans (agz (op := op) (nm := nm) (ins := ins) (out := out) (aa := aa) hlen)
   rw [ax, Bool.not_true, ax]
   cases c3 : zg vs != 0 with
   | true =>
    rw [c3, ak] at h9 eC
    exact ⟨_, h9, er (pV c3) eC⟩
   | false =>
    rw [c3, ax] at h9 eC
    rw [c1, c2, c3] at g5
    simp only [Bool.not_true, Bool.false_or, bg] at g5
    obtain ⟨g6, g7⟩ := g5
    unfold ouX at h9
    have g6 : yX op aa vs = true := g6
    rw [g6, ak] at h9
    cases c4 : mR op aa vs == 0 with
    | false =>
     rw [c4, ax] at h9 eC
     exact ⟨_, h9, er c4 eC⟩
    | true =>
     rw [c4, ak] at h9 eC
     have g7 : Ot (op, nm, ins, out, aa, ()) vs = true := by
      have g7' : (!(mR op aa vs == 0) || Ot (op, nm, ins, out, aa, ()) vs) = true := g7
      rw [c4] at g7'
      exact g7'
     rw [g7, ak] at h9
     cases c5 : zf (op, nm, ins, out, aa, ()) vs == 0 with
     | false =>
      rw [c5, ax] at h9 eC
      exact ⟨_, h9, er c5 eC⟩
     | true =>
      rw [c5, ak] at h9 eC
      cases c6 : aB (j6 (op, nm, ins, out, aa, ()) vs) != 0 with
      | true =>
       rw [c6, ak] at h9 eC
       exact ⟨_, h9, er (pV c6) eC⟩
      | false =>
       have h6 := (fL (show aB (j6 (op, nm, ins, out, aa, ()) vs) = 0 by simpa using c6)).2.1
       rw [c6, ax, g2, ak, aE (show (j6 (op, nm, ins, out, aa, ()) vs).length <= 2147483648 by omega), ak] at h9
       rw [c6, ax] at eC
       cases c7 : kK aa (pN op aa vs) with
       | false =>
        rw [c7, ax] at h9 eC
        exact ⟨_, h9, er rfl eC⟩
       | true =>
        rw [c7, ak] at h9 eC
        refine ⟨_, h9, (U7 _ _ _).trans ?_⟩
        unfold Ow
        rw [eC]
        rfl
noncomputable def ouF : List AV -> LHp -> Tq
 | [.d Y2 n, .d (.slice Y3) vs], [] => .br (PS n vs) (.leaf (.ret [.d (Y3) (Ow n vs), I (ET n vs)]) []) .no
 | _, _ => .no
theorem abO : bE 58 (ao ouF) := by
 have h1 : bE 58 (El [(Y3), af] ouR) := F0 Ou
 refine aO fun args hs ae aF h' => ?_
 unfold ouF at h'
 split at h'
 ·rename_i n vs
  obtain ⟨hg, h2⟩ := Tq.br_no h'
  obtain ⟨op, nm, ins, out, aa, u⟩ := n
  obtain ⟨p, h3, h4⟩ := abN hg
  refine h1.ok _ _ _ _ (Eq.trans ?_ (h4.trans h2))
  simp only [El]
  rw [Ou.eq]
  have h5 : ouR.run [dh op nm ins out aa, .d (.slice (Y3)) vs] [] (fun a h => some (a, h)) = some p := BX qG h3
  rw [h5]
  obtain ⟨ae0, hs0⟩ := p
  rfl
 ·cases h'
noncomputable def ouE : FnE := cU [(Y2), .slice (Y3)] (ao ouF)
theorem abP : bE 58 ouE := bF abO
noncomputable def WZ : Code := bD f23
noncomputable def zh : Code := cL (cL (cR (cL (cR (cR WZ)))))
noncomputable def ix : Cfg := ⟨33, 6, 0, [(3, [2, 4, 6, 9, 10, 11])], true⟩
def abQ : List AV -> LHp -> Tq
 | [.d Y0 x], [] => .br (decide (List.length x.2.1 <= maxLen /\ List.length x.2.2.1 <= maxLen)) (.leaf (.ret [I (gG x.1 x.2.1 x.2.2.1)]) []) .no
 | _, _ => .no
theorem U8 : bE 57 (ao abQ) := by
 refine aO fun args hs ae aF h' => ?_
 unfold abQ at h'
 split at h'
 ·rename_i x
  obtain ⟨t, dims, data, u⟩ := x
  exact FF.ok _ _ _ _ h'
 ·cases h'
noncomputable def nM : Env := (sa.add 58 ouE).add 57 (ao abQ)
theorem Jz : nM.Good := (dR.add abP).add U8
noncomputable def U9 : AEx -> LSt -> Option (aq × LHp) := (aW 0 (bt nM ix [3] (hlp nM ix) (cR (cR (cR WZ))) (bA prog 0 f23.results.toList ah)))
theorem abR (n : dL) (ts : List (Y0).den) : aC nM f23 6 [(3, [2, 4, 6, 9, 10, 11])] [.d (Y2) n, .d (.slice (Y0)) ts] [] ah = (hlp nM ix) zh _ { fr := aw 6 [(2, AV.op 0 [] 0), (4, AV.op 1 [] 0), (6, AV.nils), (9, AV.d Y0.slice ts), (10, I (Int.ofNat ts.length)), (11, I 0)], hp := [(0, al.box (AV.d Y2 n)), (1, al.box ((AV.d Ty.str []).pr ((I 0).pr (AV.nils.pr (AV.d Ty.unit PUnit.unit)))))], nx := 2 } U9 := (bI [3] ix rfl).trans (by obtain ⟨hl, h⟩ := bw nM ix; rw [h]; kernel_rfl)
def Va (n : dL) : LHp := [(0, .box (.d (Y2) n)), (1, .box ((AV.d Ty.str []).pr ((I 0).pr (AV.nils.pr (AV.d Ty.unit PUnit.unit)))))]
def xh (n : dL) (ts : List (Y0).den) (i : Int) : LSt := { fr := aw 6 [(2, AV.op 0 [] 0), (4, AV.op 1 [] 0), (6, AV.nils), (9, .d (.slice (Y0)) ts), (10, I (Int.ofNat ts.length)), (11, I i)], hp := Va n, nx := 2 }
def Cz (o : cg) (n : dL) (ts : List (Y0).den) (i : Int) : LSt := { fr := aw 6 [(2, AV.op 0 [] 0), (4, AV.op 1 [] 0), (6, AV.os 2 0), (9, .d (.slice (Y0)) ts), (10, I (Int.ofNat ts.length)), (11, I i)], hp := Va n ++ [(2, .arr 47 (Y3) 0 false o)], nx := 3 }
theorem Ox (x : dL) (ts : List (Y0).den) (i : Int) (n : Nat) {R : Type} (k : AEx -> LSt -> Option R) : lp nM ix zh (n + 1) (xh x ts i) k = bif decide (i < Int.ofNat ts.length) then (idx ts i).bind fun v1 => bif decide (List.length v1.2.1 <= 9223372036854775807 /\ List.length v1.2.2.1 <= 9223372036854775807) then bif gG v1.1 v1.2.1 v1.2.2.1 != 0 then k AEx.ret { fr := aw 6 [(2, AV.op 0 [] 0), (4, AV.op 1 [] 0), (5, I 1), (6, AV.nils), (8, AV.op 2 [] 0), (9, AV.d Y0.slice ts), (10, I (Int.ofNat ts.length)), (11, I i), (12, B true), (13, AV.ip Y0 v1), (14, AV.d Y0 v1), (15, AV.d Y0 v1), (16, I (gG v1.1 v1.2.1 v1.2.2.1)), (17, B true), (18, (AV.d Ty.str []).pr ((I 0).pr (AV.nils.pr (AV.d Ty.unit PUnit.unit))))], hp := [(1, al.box ((AV.d Ty.str []).pr ((I 0).pr (AV.nils.pr (AV.d Ty.unit PUnit.unit))))), (2, al.box (AV.d Y0 v1)), (2, al.box ((I 0).pr (AV.nils.pr (AV.nils.pr (AV.d Ty.unit PUnit.unit))))), (0, al.box (AV.d Y2 x)), (1, al.box ((AV.d Ty.str []).pr ((I 0).pr (AV.nils.pr (AV.d Ty.unit PUnit.unit)))))], nx := 3 } else lp nM ix zh n (Cz [([], v1.1, v1.2.1, ())] x ts (i64.wrap (i + 1))) k else none else k (AEx.exit 0) { fr := aw 6 [(2, AV.op 0 [] 0), (4, AV.op 1 [] 0), (6, AV.nils), (9, AV.d Y0.slice ts), (10, I (Int.ofNat ts.length)), (11, I i), (12, B false)], hp := [(0, al.box (AV.d Y2 x)), (1, al.box ((AV.d Ty.str []).pr ((I 0).pr (AV.nils.pr (AV.d Ty.unit PUnit.unit)))))], nx := 2 } := by kernel_rfl
theorem Oy (v : (Y3).den) (o : cg) (x : dL) (ts : List (Y0).den) (i : Int) (n : Nat) {R : Type} (k : AEx -> LSt -> Option R) : lp nM ix zh (n + 1) (Cz (v :: o) x ts i) k = bif decide (i < Int.ofNat ts.length) then (idx ts i).bind fun v1 => bif decide (List.length v1.2.1 <= 9223372036854775807 /\ List.length v1.2.2.1 <= 9223372036854775807) then bif gG v1.1 v1.2.1 v1.2.2.1 != 0 then k AEx.ret { fr := aw 6 [(2, AV.op 0 [] 0), (4, AV.op 1 [] 0), (5, I 1), (6, AV.os 2 0), (8, AV.op 3 [] 0), (9, AV.d Y0.slice ts), (10, I (Int.ofNat ts.length)), (11, I i), (12, B true), (13, AV.ip Y0 v1), (14, AV.d Y0 v1), (15, AV.d Y0 v1), (16, I (gG v1.1 v1.2.1 v1.2.2.1)), (17, B true), (18, (AV.d Ty.str []).pr ((I 0).pr (AV.nils.pr (AV.d Ty.unit PUnit.unit))))], hp := [(1, al.box ((AV.d Ty.str []).pr ((I 0).pr (AV.nils.pr (AV.d Ty.unit PUnit.unit))))), (3, al.box (AV.d Y0 v1)), (3, al.box ((I 0).pr (AV.nils.pr (AV.nils.pr (AV.d Ty.unit PUnit.unit))))), (0, al.box (AV.d Y2 x)), (1, al.box ((AV.d Ty.str []).pr ((I 0).pr (AV.nils.pr (AV.d Ty.unit PUnit.unit))))), (2, al.arr 47 Y3 0 false (v :: o))], nx := 4 } else (app (v :: o) [([], v1.1, v1.2.1, PUnit.unit)]).bind fun v4 => lp nM ix zh n (Cz v4 x ts (i64.wrap (i + 1))) k else none else k (AEx.exit 0) { fr := aw 6 [(2, AV.op 0 [] 0), (4, AV.op 1 [] 0), (6, AV.os 2 0), (9, AV.d Y0.slice ts), (10, I (Int.ofNat ts.length)), (11, I i), (12, B false)], hp := [(0, al.box (AV.d Y2 x)), (1, al.box ((AV.d Ty.str []).pr ((I 0).pr (AV.nils.pr (AV.d Ty.unit PUnit.unit))))), (2, al.arr 47 Y3 0 false (v :: o))], nx := 3 } := by kernel_rfl
theorem abS (x : dL) (ts : List (Y0).den) (i : Int) : U9 (.exit 0) { fr := aw 6 [(2, AV.op 0 [] 0), (4, AV.op 1 [] 0), (6, AV.nils), (9, .d (.slice (Y0)) ts), (10, I (Int.ofNat ts.length)), (11, I i), (12, B false)], hp := Va x, nx := 2 } = bif PS x [] then ay [AV.d Y3 (Ow x []), I (ET x [])] else none := by kernel_rfl
theorem abT (o : cg) (x : dL) (ts : List (Y0).den) (i : Int) : U9 (.exit 0) { fr := aw 6 [(2, AV.op 0 [] 0), (4, AV.op 1 [] 0), (6, AV.os 2 0), (9, .d (.slice (Y0)) ts), (10, I (Int.ofNat ts.length)), (11, I i), (12, B false)], hp := Va x ++ [(2, .arr 47 (Y3) 0 false o)], nx := 3 } = bif PS x o then ay [AV.d Y3 (Ow x o), I (ET x o)] else none := by kernel_rfl
theorem Hm {p : Prop} (h : (4 : Int) = 0) : p := absurd h (by decide)
theorem no5 {p : Prop} (h : (5 : Int) = 0) : p := absurd h (by decide)
theorem l5 {c : Int} (h : (c != 0) = false) : c = 0 := by simpa using h
theorem Hn {ws : List (aj)} : ∀ (r pre : bk), MZ ws pre r = 0 -> ∀ a ∈ r, ∃ w, ws.find? (oE a) = some w /\ dJ (hJ w (List.length a.1 + 1)) = a.2.1
 | [], _, _, a, ha => by cases ha
 | b :: r, pre, h, a, ha => by
  rw [MZ] at h
  have hb : MY ws pre b = 0 := by
   cases hq : MY ws pre b != 0 with
   | true => rw [hq, ak] at h; exact h
   | false => exact l5 hq
  rw [hb] at h
  rcases List.mem_cons.1 ha with rfl | ha
  ·unfold MY at hb
   cases hf : ws.find? (oE a) with
   | none => rw [hf] at hb; exact no5 hb
   | some w =>
    rw [hf] at hb
    refine ⟨w, rfl, ?_⟩
    cases hk : dJ (hJ w (List.length a.1 + 1)) != a.2.1 with
    | true =>
     have hb : (bif dJ (hJ w (List.length a.1 + 1)) != a.2.1 then (4 : Int) else _) = 0 := hb
     rw [hk] at hb
     exact Hm hb
    | false => simpa using hk
  ·exact Hn r _ h a ha
theorem u9 {ws : List (aj)} {aa : bk} (h : jT ws aa = 0) : MZ ws [] aa = 0 /\ ws.any (ZI aa) = false := by
 unfold jT at h
 cases hq : MZ ws [] aa != 0 with
 | true => rw [hq, ak] at h; rw [h] at hq; exact absurd hq (by decide)
 | false =>
  rw [hq, ax] at h
  refine ⟨l5 hq, ?_⟩
  cases hw : ws.any (ZI aa) with
  | false => rfl
  | true => rw [hw] at h; exact absurd h (by decide)
theorem va {ws : List (aj)} {aa : bk} (h : jT ws aa = 0) {name : aj} (hn : ws.any (fun w => cP w (name ++ [32])) = false) (d : ag) : ai aa name d = d := by
 unfold ai
 cases hf : aa.find? (gZ name 7) with
 | none => rfl
 | some a =>
  exfalso
  obtain ⟨w, h1, _⟩ := Hn aa [] (u9 h).1 a (List.mem_of_find?_eq_some hf)
  have h2 := List.find?_some h1
  have h3 := List.find?_some hf
  unfold gZ at h3
  rw [bg] at h3
  have h4 : a.1 = name := eq_of_beq h3.1
  unfold oE at h2
  rw [h4] at h2
  rw [List.any_eq_false] at hn
  exact hn w (List.mem_of_find?_eq_some h1) h2
theorem JP {ws : List (aj)} {aa : bk} (h : jT ws aa = 0) {w : aj} (hw : w ∈ ws) (hs : gM (cH w) = true) : ∃ a ∈ aa, a.1 = gh w /\ aa.find? (gZ (gh w) (dJ (hJ (cH w ++ [32]) 0))) = some a := by
 have h2 := (u9 h).2
 rw [List.any_eq_false] at h2
 have h3 := h2 w hw
 unfold ZI at h3
 rw [hs, Bool.true_and] at h3
 cases hf : aa.find? (gZ (gh w) (dJ (hJ (cH w ++ [32]) 0))) with
 | none => rw [hf] at h3; exact absurd rfl h3
 | some a =>
  have h5 := List.find?_some hf
  unfold gZ at h5
  rw [bg] at h5
  exact ⟨a, List.mem_of_find?_eq_some hf, eq_of_beq h5.1, rfl⟩
structure aiV (op : List UInt8) (ins : List (List UInt8)) (aa : bk) : Prop where
 least : (cC op).1 <= (ins.length : Int)
 most : (ins.length : Int) <= (cC op).2.1
 attr : jT (eT (cC op).2.2.1) aa = 0
 const : uB op aa = 0
theorem vd {op : aj} {ins : List (aj)} {out : aj} {aa : bk} (h : B8 op ins out aa = 0) : aiV op ins aa := by
 unfold B8 at h
 cases h1 : !uA op with
 | true => rw [h1] at h; exact no5 h
 | false =>
  rw [h1, ax] at h
  cases h2 : decide (Int.ofNat ins.length < (cC op).1) with
  | true => rw [h2] at h; exact Hm h
  | false =>
   rw [h2, ax] at h
   cases h3 : decide (Int.ofNat ins.length > (cC op).2.1) with
   | true => rw [h3] at h; exact Hm h
   | false =>
    rw [h3, ax] at h
    cases h4 : out == [] with
    | true => rw [h4] at h; exact no5 h
    | false =>
     rw [h4, ax] at h
     cases h5 : ins.any (fun w => [] == w) with
     | true => rw [h5] at h; exact no5 h
     | false =>
      rw [h5, ax] at h
      cases h6 : jT (eT (cC op).2.2.1) aa != 0 with
      | true => rw [h6, ak] at h; rw [h] at h6; exact absurd h6 (by decide)
      | false =>
       rw [h6, ax] at h
       have e2 := rq h2
       have e3 := rq h3
       simp only [aT] at e2 e3
       refine ⟨by omega, by omega, l5 h6, ?_⟩
       cases h7 : lP aa with
       | true => rw [h7] at h; exact h
       | false =>
        rw [h7, ax] at h
        cases h8 : jo aa with
        | true => rw [h8] at h; exact Hm h
        | false => rw [h8] at h; exact h
def ve (o : Option (Int × Int × aj × Unit)) : Prop := 1 <= (o.getD (1, 1, [], ())).1
theorem JQ {c : Bool} {a b : Option (Int × Int × aj × Unit)} (h1 : ve a) (h2 : ve b) : ve (bif c then a else b) := by
 cases c with
 | true => exact h1
 | false => exact h2
theorem vf {op : aj} (h : (op == ff) = false) : 1 <= (cC op).1 := by
 show ve (wX op)
 unfold wX
 unfold ff at h
 rw [h, ax]
 repeat' apply JQ
 all_goals (unfold ve; decide)
theorem JR {op : aj} {aa : bk} (h : (op == ff) = true) (h2 : jT (eT (cC op).2.2.1) aa = 0) : ∃ a, List.find? gj aa = some a := by
 obtain rfl := eq_of_beq h
 obtain ⟨a, h3, h4, _⟩ := JP h2 (w := [118, 97, 108, 117, 101, 32, 116, 42]) (by decide +kernel) (by decide +kernel)
 cases hf : List.find? gj aa with
 | some b => exact ⟨b, rfl⟩
 | none =>
  exfalso
  rw [List.find?_eq_none] at hf
  refine hf a h3 ?_
  unfold gj
  rw [h4]
  decide +kernel
end
end Go.Proofs.XRT
