/- slices.Contains over data: told; infer.numbers, reduced, reshape, slice: their loops' rounds. -/
import Derived.Test.YtnkhoojomojbpaaGreatDoorK40
import Derived.Shelf.Slices.Delete
import Derived.Shelf.Slices.Reverse
import Derived.Shelf.Sort.Plain
import Derived.Shelf.Spec.SlicesInsertGrow
import Derived.Laws.IdiomCopy
import Derived.Sort.Grow
import Derived.Sort.Row
import Derived.Shelf.Slices.In.SortNone
set_option maxRecDepth 100000
set_option maxHeartbeats 4000000
namespace Go.Proofs.XRT
open Go.Vm Go Tryz IntKind
noncomputable section
noncomputable def GA : Code := bd f252
noncomputable def TK : Code := cL (cL (cR (cL (cR GA))))
noncomputable def iN : Cfg := ⟨19, 5, 0, [(2, [0, 1, 7, 8])], true⟩
def Ni (xs : af) (v : Int) (i : Int) : LSt := ⟨aw 5 [(0, .d (.slice aa) xs), (1, I v), (7, I (Int.ofNat xs.length)), (8, I i)], [], 0⟩
theorem aab (xs : af) (v : Int) : aC jP f252 5 [(2, [0, 1, 7, 8])] [.d (.slice aa) xs, I v] [] ah = (hlp jP iN) TK _ (Ni xs v 0) (aQ 0 (aX jP iN [2] (hlp jP iN) (cR (cR GA)) (aZ prog 0 f252.results.toList ah))) := (bq [2] iN rfl).trans (by obtain ⟨hl, h⟩ := bc jP iN; rw [h]; kernel_rfl)
theorem aac (xs : af) (v : Int) (i : Int) (n : Nat) {R : Type} (k : AEx -> LSt -> Option R) : lp jP iN TK (n + 1) (Ni xs v i) k = bif decide (i < Int.ofNat xs.length) then (idx xs i).bind fun v1 => bif v == v1 then k AEx.ret { fr := aw 5 [(0, AV.d (aa).slice xs), (1, I v), (4, I i), (5, I i), (7, I (Int.ofNat xs.length)), (8, I i), (9, B true), (10, I i), (11, I v), (12, AV.d (aa).slice xs), (13, I i), (14, AV.ip (aa) v1), (15, I v1), (16, B true), (17, I i)], hp := [], nx := 0 } else lp jP iN TK n (Ni xs v (i64.wrap (i + 1))) k else k (AEx.exit 0) { fr := aw 5 [(0, AV.d (aa).slice xs), (1, I v), (7, I (Int.ofNat xs.length)), (8, I i), (9, B false)], hp := [], nx := 0 } := by kernel_rfl
theorem TL {xs : af} {v : Int} (hl : xs.length <= maxLen) : aC jP f252 5 [(2, [0, 1, 7, 8])] [.d (.slice aa) xs, I v] [] ah = some (.ret [I (bk (fun w => v == w) xs)], []) := by
 rw [aab]
 have hs := fun (i : Int) (n : Nat) => aac xs v i n (aQ 0 (aX jP iN [2] (hlp jP iN) (cR (cR GA)) (aZ prog 0 f252.results.toList ah)))
 have h := fx (T := fun n s => lp jP iN TK n s (aQ 0 (aX jP iN [2] (hlp jP iN) (cR (cR GA)) (aZ prog 0 f252.results.toList ah)))) (xs := xs) (st := fun i => Ni xs v i) hl hs
 unfold Ni at h
 refine h.trans ?_
 unfold bk
 cases hq : xs.findIdx? (fun w => v == w) with
 | none => show _ = _; kernel_rfl
 | some i =>
  obtain ⟨hi, _⟩ := List.findIdx?_eq_some_iff_getElem.1 hq
  simp only [List.getElem?_eq_getElem hi, aB]
  show _ = _
  kernel_rfl
def aad : List AV -> LHp -> Tq
 | [.d zS xs, .d zI v], [] => .br (decide (xs.length <= maxLen)) (.leaf (.ret [I (bk (fun w => v == w) xs)]) []) .no
 | _, _ => .no
theorem TM : bg 252 (ao aad) := by
 refine bW jy bO func252 call252 (depth := 5) (live := [(2, [0, 1, 7, 8])]) (by decide +kernel) rfl fun args hs p h => ?_
 unfold aad at h
 split at h
 ·obtain ⟨hl, h⟩ := Tq.br_no h
  cases h
  have hl := aU hl
  exact TL hl
 ·cases h
noncomputable def afP : Env := X3.add 252 (ao aad)
theorem IL : afP.Good := oN.add TM
theorem aae (xs : af) (v : Int) : aC afP f212 4 [] [.d (.slice aa) xs, I v] [] ah = bif decide (xs.length <= 9223372036854775807) then az [B (decide (bk (fun w => v == w) xs >= 0))] else none := by kernel_rfl
def iY (xs : af) (v : Int) : Bool := xs.any fun w => v == w
def TN : List AV -> LHp -> Tq
 | [.d zS xs, .d zI v], [] => .br (decide (xs.length <= maxLen)) (.leaf (.ret [B (iY xs v)]) []) .no
 | _, _ => .no
theorem GB : bg 212 (ao TN) := by
 have h1 := bD (d := 4) (l := []) IL func212 call212
 refine aO fun args hs ae aH h' => ?_
 unfold TN at h'
 split at h'
 ·refine h1.okC ((aae _ _).trans ?_)
  rw [afI]
  exact h'
 ·cases h'
noncomputable def ee : Env := afN.add 212 (ao TN)
theorem Ee : ee.Good := II.add GB
noncomputable def KNd : AEx -> LSt -> Option (aq × LHp) := (aQ 0 (aX mY fE [4] (hlp mY fE) (cR (cR (cR (cR Nc)))) (aZ prog 0 f215.results.toList ah)))
def BS (c lo hi : Int) (l : af) (i : Int) : LSt := { fr := aw 6 [(3, I c), (4, I lo), (5, I hi), (14, AV.nils), (21, .d (.slice aa) l), (22, I (Int.ofNat l.length)), (23, I i)], hp := [], nx := 0 }
def Ef (o : af) (c lo hi : Int) (l : af) (i : Int) : LSt := { fr := aw 6 [(3, I c), (4, I lo), (5, I hi), (14, AV.os 0 0), (21, .d (.slice aa) l), (22, I (Int.ofNat l.length)), (23, I i)], hp := [(0, .arr 3 aa 0 false o)], nx := 1 }
theorem Nj (c lo hi : Int) (l : af) (i : Int) (n : Nat) {R : Type} (k : AEx -> LSt -> Option R) : lp mY fE yf (n + 1) (BS c lo hi l i) k = bif decide (i < Int.ofNat l.length) then (idx l i).bind fun v1 => bif decide (lo <= v1) then bif !decide (v1 <= hi) then k (AEx.panic 131 4) { fr := aw 6 [(3, I c), (4, I lo), (5, I hi), (14, AV.nils), (16, I v1), (21, AV.d (aa).slice l), (22, I (Int.ofNat l.length)), (23, I i), (24, B true), (25, AV.ip (aa) v1), (26, I v1), (27, I lo), (28, I v1), (29, B (decide (lo <= v1))), (30, B true), (31, I v1), (32, I hi), (33, B (decide (v1 <= hi))), (34, B (decide (v1 <= hi)))], hp := [], nx := 0 } else lp mY fE yf n (Ef [v1] c lo hi l (i64.wrap (i + 1))) k else k (AEx.panic 131 4) { fr := aw 6 [(3, I c), (4, I lo), (5, I hi), (14, AV.nils), (16, I v1), (21, AV.d (aa).slice l), (22, I (Int.ofNat l.length)), (23, I i), (24, B true), (25, AV.ip (aa) v1), (26, I v1), (27, I lo), (28, I v1), (29, B (decide (lo <= v1))), (30, B false), (31, AV.tup []), (32, AV.tup []), (33, AV.tup []), (34, B false)], hp := [], nx := 0 } else k (AEx.exit 0) { fr := aw 6 [(3, I c), (4, I lo), (5, I hi), (14, AV.nils), (21, AV.d (aa).slice l), (22, I (Int.ofNat l.length)), (23, I i), (24, B false)], hp := [], nx := 0 } := by kernel_rfl
theorem Nk (v : Int) (o : af) (c lo hi : Int) (l : af) (i : Int) (n : Nat) {R : Type} (k : AEx -> LSt -> Option R) : lp mY fE yf (n + 1) (Ef (v :: o) c lo hi l i) k = bif decide (i < Int.ofNat l.length) then (idx l i).bind fun v1 => bif decide (lo <= v1) then bif !decide (v1 <= hi) then k (AEx.panic 131 4) { fr := aw 6 [(3, I c), (4, I lo), (5, I hi), (14, AV.os 0 0), (16, I v1), (21, AV.d (aa).slice l), (22, I (Int.ofNat l.length)), (23, I i), (24, B true), (25, AV.ip (aa) v1), (26, I v1), (27, I lo), (28, I v1), (29, B (decide (lo <= v1))), (30, B true), (31, I v1), (32, I hi), (33, B (decide (v1 <= hi))), (34, B (decide (v1 <= hi)))], hp := [(0, aj.arr 3 (aa) 0 false (v :: o))], nx := 1 } else (app (v :: o) [v1]).bind fun v4 => lp mY fE yf n (Ef v4 c lo hi l (i64.wrap (i + 1))) k else k (AEx.panic 131 4) { fr := aw 6 [(3, I c), (4, I lo), (5, I hi), (14, AV.os 0 0), (16, I v1), (21, AV.d (aa).slice l), (22, I (Int.ofNat l.length)), (23, I i), (24, B true), (25, AV.ip (aa) v1), (26, I v1), (27, I lo), (28, I v1), (29, B (decide (lo <= v1))), (30, B false), (31, AV.tup []), (32, AV.tup []), (33, AV.tup []), (34, B false)], hp := [(0, aj.arr 3 (aa) 0 false (v :: o))], nx := 1 } else k (AEx.exit 0) { fr := aw 6 [(3, I c), (4, I lo), (5, I hi), (14, AV.os 0 0), (21, AV.d (aa).slice l), (22, I (Int.ofNat l.length)), (23, I i), (24, B false)], hp := [(0, aj.arr 3 (aa) 0 false (v :: o))], nx := 1 } := by kernel_rfl
theorem aaf (c lo hi : Int) (l : af) (i : Int) : KNd (.exit 0) { fr := aw 6 [(3, I c), (4, I lo), (5, I hi), (14, AV.nils), (21, AV.d (aa).slice l), (22, I (Int.ofNat l.length)), (23, I i), (24, B false)], hp := [], nx := 0 } = bif !0 == c then aV else az [AV.nils] := by kernel_rfl
theorem aag (o : af) (c lo hi : Int) (l : af) (i : Int) : KNd (.exit 0) { fr := aw 6 [(3, I c), (4, I lo), (5, I hi), (14, AV.os 0 0), (21, AV.d (aa).slice l), (22, I (Int.ofNat l.length)), (23, I i), (24, B false)], hp := [(0, aj.arr 3 (aa) 0 false o)], nx := 1 } = bif !Int.ofNat o.length == c then aV else some (aq.ret [AV.os 0 0], [(0, aj.arr 3 (aa) 0 false o)]) := by kernel_rfl
def jF (g : af) (c : Int) (l : af) (i : Int) : LSt := { fr := aw 6 [(6, .d (.slice aa) g), (7, I c), (8, AV.nils), (39, .d (.slice aa) l), (40, I (Int.ofNat l.length)), (41, I i)], hp := [], nx := 0 }
def oV (o g : af) (c : Int) (l : af) (i : Int) : LSt := { fr := aw 6 [(6, .d (.slice aa) g), (7, I c), (8, AV.os 0 0), (39, .d (.slice aa) l), (40, I (Int.ofNat l.length)), (41, I i)], hp := [(0, .arr 3 aa 0 false o)], nx := 1 }
noncomputable def Nl : AEx -> LSt -> Option (aq × LHp) := (aQ 0 (aX ee cX [9] (hlp ee cX) (cR (cR (cR (cR (cR (cR (cR (cR Wn)))))))) (aZ prog 0 f150.results.toList ah)))
theorem TO (op nm : ak) (ins : List (ak)) (out : ak) (ag : bn) (vs : b5) (xs : af) : aC ee f150 6 [(9, [6, 7, 8, 39, 40, 41])] [fD (op, nm, ins, out, ag, ()) vs, .d (.slice aa) xs] [] ah = bif decide (0 <= Int.ofNat xs.length /\ Int.ofNat xs.length <= 2147483648) then bif aF ag then bif decide ((gy (Int.ofNat xs.length).toNat).length <= 2147483648) then bif op == xJ then bif decide (ag.length <= 9223372036854775807) then bif eh (Int.ofNat xs.length) [aT ag cG 0] [] then bif decide (ag.length <= 9223372036854775807) then bif aT ag xP 1 == 0 then (hlp ee cX) lb _ (jF [kF (aT ag cG 0) (Int.ofNat xs.length)] (aT ag xP 1) xs 0) Nl else bif !aT ag xP 1 == 1 then aV else (hlp ee cX) lb _ (jF [kF (aT ag cG 0) (Int.ofNat xs.length)] (aT ag xP 1) xs 0) Nl else none else aV else none else bif decide ((al ag iu (gy (Int.ofNat xs.length).toNat)).length <= 2147483648) then bif eh (Int.ofNat xs.length) (al ag iu (gy (Int.ofNat xs.length).toNat)) [] then bif decide (ag.length <= 9223372036854775807) then bif aT ag xP 1 == 0 then (hlp ee cX) lb _ (jF (lC (al ag iu (gy (Int.ofNat xs.length).toNat)) (Int.ofNat xs.length)) (aT ag xP 1) xs 0) Nl else bif !aT ag xP 1 == 1 then aV else (hlp ee cX) lb _ (jF (lC (al ag iu (gy (Int.ofNat xs.length).toNat)) (Int.ofNat xs.length)) (aT ag xP 1) xs 0) Nl else none else aV else none else none else none else none := (bq [9] cX rfl).trans (by obtain ⟨hl, h⟩ := bc ee cX; rw [h]; kernel_rfl)
theorem Nn (g : af) (c : Int) (l : af) (i : Int) (n : Nat) {R : Type} (k : AEx -> LSt -> Option R) : lp ee cX lb (n + 1) (jF g c l i) k = bif decide (i < Int.ofNat l.length) then (idx l i).bind fun v1 => bif decide (g.length <= 9223372036854775807) then bif !iY g i then lp ee cX lb n (oV [v1] g c l (i64.wrap (i + 1))) k else bif c == 1 then lp ee cX lb n (oV [1] g c l (i64.wrap (i + 1))) k else lp ee cX lb n (jF g c l (i64.wrap (i + 1))) k else none else k (AEx.exit 0) { fr := aw 6 [(6, AV.d (aa).slice g), (7, I c), (8, AV.nils), (39, AV.d (aa).slice l), (40, I (Int.ofNat l.length)), (41, I i), (42, B false)], hp := [], nx := 0 } := by kernel_rfl
theorem Np (v : Int) (o g : af) (c : Int) (l : af) (i : Int) (n : Nat) {R : Type} (k : AEx -> LSt -> Option R) : lp ee cX lb (n + 1) (oV (v :: o) g c l i) k = bif decide (i < Int.ofNat l.length) then (idx l i).bind fun v1 => bif decide (g.length <= 9223372036854775807) then bif !iY g i then (app (v :: o) [v1]).bind fun v4 => lp ee cX lb n (oV v4 g c l (i64.wrap (i + 1))) k else bif c == 1 then (app (v :: o) [1]).bind fun v5 => lp ee cX lb n (oV v5 g c l (i64.wrap (i + 1))) k else lp ee cX lb n (oV (v :: o) g c l (i64.wrap (i + 1))) k else none else k (AEx.exit 0) { fr := aw 6 [(6, AV.d (aa).slice g), (7, I c), (8, AV.os 0 0), (39, AV.d (aa).slice l), (40, I (Int.ofNat l.length)), (41, I i), (42, B false)], hp := [(0, aj.arr 3 (aa) 0 false (v :: o))], nx := 1 } := by kernel_rfl
def qy (xs : af) (a p : Int) (l : af) (i : Int) : LSt := { fr := aw 7 [(1, .d (.slice aa) xs), (5, I a), (6, I p), (7, AV.nils), (13, .d (.slice aa) l), (14, I (Int.ofNat l.length)), (15, I i)], hp := [], nx := 0 }
def fY (o xs : af) (a p : Int) (l : af) (i : Int) : LSt := { fr := aw 7 [(1, .d (.slice aa) xs), (5, I a), (6, I p), (7, AV.os 0 0), (13, .d (.slice aa) l), (14, I (Int.ofNat l.length)), (15, I i)], hp := [(0, .arr 3 aa 0 false o)], nx := 1 }
noncomputable def nY : AEx -> LSt -> Option (aq × LHp) := (aQ 0 (aX dP bF [4] (hlp dP bF) (cR (cR (cR (cR Nd)))) (aZ prog 0 f216.results.toList ah)))
theorem Nq (xs : af) (a p : Int) (l : af) (i : Int) (n : Nat) : lp dP bF fF (n + 1) (qy xs a p l i) nY = bif decide (i < Int.ofNat l.length) then (idx l i).bind fun v1 => bif v1 == -1 then bif decide (a < 0) then bif !decide (i64.wrap (p * 1) <= 65536) then aV else lp dP bF fF n (fY [1] xs i (i64.wrap (p * 1)) l (i64.wrap (i + 1))) nY else bif v1 == 0 then bif decide (i < Int.ofNat xs.length) then (idx xs i).bind fun v6 => bif decide (v6 >= 1) then bif !decide (v6 <= 65536) then aV else bif !decide (i64.wrap (p * v6) <= 65536) then aV else lp dP bF fF n (fY [v6] xs a (i64.wrap (p * v6)) l (i64.wrap (i + 1))) nY else aV else bif decide (v1 >= 1) then bif !decide (v1 <= 65536) then aV else bif !decide (i64.wrap (p * v1) <= 65536) then aV else lp dP bF fF n (fY [v1] xs a (i64.wrap (p * v1)) l (i64.wrap (i + 1))) nY else aV else bif decide (v1 >= 1) then bif !decide (v1 <= 65536) then aV else bif !decide (i64.wrap (p * v1) <= 65536) then aV else lp dP bF fF n (fY [v1] xs a (i64.wrap (p * v1)) l (i64.wrap (i + 1))) nY else aV else bif v1 == 0 then bif decide (i < Int.ofNat xs.length) then (idx xs i).bind fun v5 => bif decide (v5 >= 1) then bif !decide (v5 <= 65536) then aV else bif !decide (i64.wrap (p * v5) <= 65536) then aV else lp dP bF fF n (fY [v5] xs a (i64.wrap (p * v5)) l (i64.wrap (i + 1))) nY else aV else bif decide (v1 >= 1) then bif !decide (v1 <= 65536) then aV else bif !decide (i64.wrap (p * v1) <= 65536) then aV else lp dP bF fF n (fY [v1] xs a (i64.wrap (p * v1)) l (i64.wrap (i + 1))) nY else aV else bif decide (v1 >= 1) then bif !decide (v1 <= 65536) then aV else bif !decide (i64.wrap (p * v1) <= 65536) then aV else lp dP bF fF n (fY [v1] xs a (i64.wrap (p * v1)) l (i64.wrap (i + 1))) nY else aV else bif decide (xs.length <= 9223372036854775807) then bif decide (a >= 0) then (if p = 0 then none else some ((aJ xs).tmod p)).bind fun v3 => bif !v3 == 0 then aV else (if p = 0 then none else some (i64.wrap ((aJ xs).tdiv p))).bind fun v5 => none else bif !aJ xs == p then aV else az [AV.nils] else none := by kernel_rfl
theorem Nr (v : Int) (o xs : af) (a p : Int) (l : af) (i : Int) (n : Nat) : lp dP bF fF (n + 1) (fY (v :: o) xs a p l i) nY = bif decide (i < Int.ofNat l.length) then (idx l i).bind fun v1 => bif v1 == -1 then bif decide (a < 0) then bif !decide (i64.wrap (p * 1) <= 65536) then aV else (app (v :: o) [1]).bind fun v5 => lp dP bF fF n (fY v5 xs i (i64.wrap (p * 1)) l (i64.wrap (i + 1))) nY else bif v1 == 0 then bif decide (i < Int.ofNat xs.length) then (idx xs i).bind fun v6 => bif decide (v6 >= 1) then bif !decide (v6 <= 65536) then aV else bif !decide (i64.wrap (p * v6) <= 65536) then aV else (app (v :: o) [v6]).bind fun v10 => lp dP bF fF n (fY v10 xs a (i64.wrap (p * v6)) l (i64.wrap (i + 1))) nY else aV else bif decide (v1 >= 1) then bif !decide (v1 <= 65536) then aV else bif !decide (i64.wrap (p * v1) <= 65536) then aV else (app (v :: o) [v1]).bind fun v9 => lp dP bF fF n (fY v9 xs a (i64.wrap (p * v1)) l (i64.wrap (i + 1))) nY else aV else bif decide (v1 >= 1) then bif !decide (v1 <= 65536) then aV else bif !decide (i64.wrap (p * v1) <= 65536) then aV else (app (v :: o) [v1]).bind fun v8 => lp dP bF fF n (fY v8 xs a (i64.wrap (p * v1)) l (i64.wrap (i + 1))) nY else aV else bif v1 == 0 then bif decide (i < Int.ofNat xs.length) then (idx xs i).bind fun v5 => bif decide (v5 >= 1) then bif !decide (v5 <= 65536) then aV else bif !decide (i64.wrap (p * v5) <= 65536) then aV else (app (v :: o) [v5]).bind fun v9 => lp dP bF fF n (fY v9 xs a (i64.wrap (p * v5)) l (i64.wrap (i + 1))) nY else aV else bif decide (v1 >= 1) then bif !decide (v1 <= 65536) then aV else bif !decide (i64.wrap (p * v1) <= 65536) then aV else (app (v :: o) [v1]).bind fun v8 => lp dP bF fF n (fY v8 xs a (i64.wrap (p * v1)) l (i64.wrap (i + 1))) nY else aV else bif decide (v1 >= 1) then bif !decide (v1 <= 65536) then aV else bif !decide (i64.wrap (p * v1) <= 65536) then aV else (app (v :: o) [v1]).bind fun v7 => lp dP bF fF n (fY v7 xs a (i64.wrap (p * v1)) l (i64.wrap (i + 1))) nY else aV else bif decide (xs.length <= 9223372036854775807) then bif decide (a >= 0) then (if p = 0 then none else some ((aJ xs).tmod p)).bind fun v3 => bif !v3 == 0 then aV else (if p = 0 then none else some (i64.wrap ((aJ xs).tdiv p))).bind fun v5 => (idx (v :: o) a).bind fun v6 => (fv (v :: o) a.toNat v5).bind fun v7 => some (aq.ret [AV.os 0 0], [(0, aj.arr 3 (aa) 0 false v7)]) else bif !aJ xs == p then aV else some (aq.ret [AV.os 0 0], [(0, aj.arr 3 (aa) 0 false (v :: o))]) else none := by kernel_rfl
theorem aah (k r : Int) : aC D2 f256 4 [] [I k, I r] [] ah = bif decide (k < 0) then az [I (if (if r < i64.wrap (k + r) then r else i64.wrap (k + r)) > 0 then if r < i64.wrap (k + r) then r else i64.wrap (k + r) else 0)] else az [I (if (if r < k then r else k) > 0 then if r < k then r else k else 0)] := by kernel_rfl
def stN (c lo hi : Int) (l : af) (i : Int) (o : af) : LSt := match o with
 | [] => BS c lo hi l i
 | v :: o => Ef (v :: o) c lo hi l i
def nuN (lo hi : Int) (o : af) (x : Int) : Nx (af) (aq × LHp) := bif decide (lo <= x) && decide (x <= hi) then .go (o ++ [x]) else .stop (some (.panic 131 4, []))
def BT (c : Int) (o : af) : Option (aq × LHp) := bif Int.ofNat o.length == c then gq 3 o else some (.panic 131 4, [])
theorem GC (c lo hi : Int) : ∀ (l o : af), cg (nuN lo hi) (BT c) l o = bif cB lo hi l then BT c (o ++ l) else some (.panic 131 4, [])
 | [], o => by rw [cg, List.append_nil]; rfl
 | x :: l, o => by
  rw [cg]
  unfold nuN
  have e : cB lo hi (x :: l) = (decide (lo <= x) && decide (x <= hi) && cB lo hi l) := by unfold cB; rw [List.all_cons]
  rw [e]
  cases decide (lo <= x) && decide (x <= hi) with
  | false => rfl
  | true =>
   show cg (nuN lo hi) _ l _ = _
   rw [GC c lo hi l, List.append_assoc]
   rfl
theorem aai {l : af} {c lo hi : Int} (hl : l.length <= 2147483648) : lp mY fE yf fu (BS c lo hi l 0) KNd = bif cJ c lo hi l then gq 3 l else some (.panic 131 4, []) := by
 have hm : maxLen = 9223372036854775807 := by decide
 refine (cq (xs := l) (T := fun n s => lp mY fE yf n s KNd) (st := stN c lo hi l) (f := nuN lo hi) (fin := BT c) (fun i o => o.length = i) (by omega) ?_ ?_ (a := []) rfl).trans ?_
 ·intro i o x n hI fc gx gi hw hd
  unfold nuN
  cases o with
  | nil =>
   show (∃ a', _ /\ _ /\ lp _ _ _ (n + 1) (BS c lo hi l (i : Int)) _ = _) \/ (∃ r', _ /\ lp _ _ _ (n + 1) (BS c lo hi l (i : Int)) _ = _)
   rw [Nj, hd, ai, gi, aB, hw]
   cases decide (lo <= x) with
   | false => exact .inr ⟨_, rfl, by show _ = _; kernel_rfl⟩
   | true =>
    cases decide (x <= hi) with
    | false => exact .inr ⟨_, rfl, by show _ = _; kernel_rfl⟩
    | true => exact .inl ⟨_, rfl, by simp only [List.length_append, List.length_singleton, hI], rfl⟩
  | cons v o =>
   have j1 : (v :: o).length + [x].length <= lim := by rw [hI, List.length_singleton, show lim = 4294967296 from rfl]; omega
   show (∃ a', _ /\ _ /\ lp _ _ _ (n + 1) (Ef (v :: o) c lo hi l (i : Int)) _ = _) \/ (∃ r', _ /\ lp _ _ _ (n + 1) (Ef (v :: o) c lo hi l (i : Int)) _ = _)
   rw [Nk, hd, ai, gi, aB, hw, dI j1]
   cases decide (lo <= x) with
   | false => exact .inr ⟨_, rfl, by show _ = _; kernel_rfl⟩
   | true =>
    cases decide (x <= hi) with
    | false => exact .inr ⟨_, rfl, by show _ = _; kernel_rfl⟩
    | true => exact .inl ⟨_, rfl, by simp only [List.length_append, List.length_singleton, hI], rfl⟩
 ·intro o n hI hd
  unfold BT
  cases o with
  | nil =>
   show lp _ _ _ (n + 1) (BS c lo hi l (l.length : Int)) _ = _
   rw [Nj, hd, ax]
   have e := aaf c lo hi l (l.length : Int)
   refine e.trans ?_
   cases Int.ofNat ([] : af).length == c <;> rfl
  | cons v o =>
   show lp _ _ _ (n + 1) (Ef (v :: o) c lo hi l (l.length : Int)) _ = _
   rw [Nk, hd, ax]
   have e := aag (v :: o) c lo hi l (l.length : Int)
   refine e.trans ?_
   cases Int.ofNat (v :: o).length == c <;> rfl
 ·rw [GC, List.nil_append]
  unfold cJ BT
  cases cB lo hi l with
  | false => rfl
  | true => cases Int.ofNat l.length == c <;> rfl
theorem afR (c lo hi : Int) (l : af) : hlp mY fE yf (aq × LHp) (BS c lo hi l 0) KNd = lp mY fE yf fu (BS c lo hi l 0) KNd := rfl
def nuD : List AV -> LHp -> Tq
 | [.d Y2 (_, _, _, _, ag, _), .d .str name, .d zS ot, .d zI c, .d zI lo, .d zI hi], [] => .br (aF ag) (.br (decide (ot.length <= 2147483648)) (.br (cJ c lo hi (al ag name ot)) (dat (.slice aa) (al ag name ot)) (pnc 131 4)) .no) .no
 | _, _ => .no
theorem aaj : bg 215 (ao nuD) := by
 have h1 := bD (d := 6) (l := [(4, [3, 4, 5, 14, 21, 22, 23])]) IH func215 call215
 refine aO fun args hs ae aH h' => ?_
 unfold nuD at h'
 split at h'
 ·rename_i op nm ins out ag _ name ot c lo hi
  obtain ⟨hs, h2⟩ := Tq.br_no h'
  obtain ⟨hb, h3⟩ := Tq.br_no h2
  have hb := aU hb
  have hL := jE hs name hb
  refine h1.okO (.slice aa) (Eq.trans ?_ h3)
  refine Eq.trans (congrArg (cK _) (Z9 op nm ins out ag name ot c lo hi)) ?_
  rw [hs, ai, aD hb, ai]
  refine Eq.trans (congrArg (cK _) ((afR _ _ _ _).trans (aai hL))) ?_
  rw [BN, jD]
  rfl
 ·cases h'
noncomputable def TP : FnE := b8 [(Y2), .str, .slice aa, aa, aa, aa] (ao nuD)
theorem yh : bg 215 TP := bf aaj
def PO (g : af) (c : Int) : Nat -> List Int -> af
 | _, [] => []
 | i, d :: r => bif !iY g (i : Int) then d :: PO g c (i + 1) r else bif c == 1 then 1 :: PO g c (i + 1) r else PO g c (i + 1) r
def aak (g : af) (c : Int) (l : af) (i : Int) (a : Nat × af) : LSt := match a.2 with
 | [] => jF g c l i
 | v :: o => oV (v :: o) g c l i
def reN (g : af) (c : Int) (a : Nat × af) (x : Int) : Nx (Nat × af) (aq × LHp) := .go (a.1 + 1, bif !iY g (a.1 : Int) then a.2 ++ [x] else bif c == 1 then a.2 ++ [1] else a.2)
theorem GD (g : af) (c : Int) : ∀ (l : af) (i : Nat) (o : af), cg (reN g c) (fun a => gq 3 a.2) l (i, o) = gq 3 (o ++ PO g c i l)
 | [], i, o => by rw [cg, PO, List.append_nil]
 | x :: l, i, o => by
  rw [cg]
  show cg (reN g c) _ l (i + 1, _) = _
  rw [GD g c l, PO]
  cases iY g (i : Int) with
  | false => show gq _ ((o ++ [x]) ++ _) = _; rw [List.append_assoc]; rfl
  | true =>
   cases c == 1 with
   | true => show gq _ ((o ++ [1]) ++ _) = _; rw [List.append_assoc]; rfl
   | false => rfl
theorem aal {g l : af} {c : Int} (hg : g.length <= 2147483648) (hl : l.length <= 2147483648) : lp ee cX lb fu (jF g c l 0) Nl = gq 3 (PO g c 0 l) := by
 have hm : maxLen = 9223372036854775807 := by decide
 refine (cq (xs := l) (T := fun n s => lp ee cX lb n s Nl) (st := aak g c l) (f := reN g c) (fin := fun a => gq 3 a.2) (fun i a => a.1 = i /\ a.2.length <= i) (by omega) ?_ ?_ (a := (0, [])) ⟨rfl, Nat.le_refl _⟩).trans (GD g c l 0 [])
 ·rintro i ⟨i', o⟩ x n ⟨rfl, hI⟩ fc gx gi hw hd
  have hI : o.length <= i' := hI
  refine .inl ⟨_, rfl, ⟨rfl, ?_⟩, ?_⟩
  ·show List.length (bif _ then _ else _) <= i' + 1
   cases !iY g (i' : Int) with
   | true => rw [ai, List.length_append, List.length_singleton]; omega
   | false =>
    cases c == 1 with
    | true => rw [ax, ai, List.length_append, List.length_singleton]; omega
    | false => rw [ax, ax]; omega
  ·cases o with
   | nil =>
    show lp _ _ _ (n + 1) (jF g c l (i' : Int)) _ = _
    rw [Nn, hd, ai, gi, aB, hw, aD (show g.length <= 9223372036854775807 by omega), ai]
    show _ = lp _ _ _ n (aak g c l _ (i' + 1, bif !iY g (i' : Int) then [] ++ [x] else bif c == 1 then [] ++ [1] else [])) _
    cases !iY g (i' : Int) with
    | true => rfl
    | false => cases c == 1 <;> rfl
   | cons v o =>
    have j1 : ∀ y : Int, (v :: o).length + [y].length <= lim := fun y => by rw [List.length_singleton, show lim = 4294967296 from rfl]; omega
    show lp _ _ _ (n + 1) (oV (v :: o) g c l (i' : Int)) _ = _
    rw [Np, hd, ai, gi, aB, hw, aD (show g.length <= 9223372036854775807 by omega), ai, dI (j1 x), dI (j1 1)]
    show _ = lp _ _ _ n (aak g c l _ (i' + 1, bif !iY g (i' : Int) then (v :: o) ++ [x] else bif c == 1 then (v :: o) ++ [1] else (v :: o))) _
    cases !iY g (i' : Int) with
    | true => rfl
    | false => cases c == 1 <;> rfl
 ·rintro ⟨i', o⟩ n ⟨hI, _⟩ hd
  cases o with
  | nil =>
   show lp _ _ _ (n + 1) (jF g c l (l.length : Int)) _ = _
   rw [Nn, hd, ax]
   show _ = _
   kernel_rfl
  | cons v o =>
   show lp _ _ _ (n + 1) (oV (v :: o) g c l (l.length : Int)) _ = _
   rw [Np, hd, ax]
   show _ = _
   kernel_rfl
theorem afS (g : af) (c : Int) (l : af) : hlp ee cX lb (aq × LHp) (jF g c l 0) Nl = lp ee cX lb fu (jF g c l 0) Nl := rfl
def du : ak := iu
def dv : ak := cG
def dw : ak := xP
def pY : ak := xJ
def aam (op : ak) (ag : bn) (xs : af) : af := bif op == pY then [aT ag dv 0] else al ag du (gy xs.length)
def TQ (op : ak) (ag : bn) (xs : af) : Bool := eh (Int.ofNat xs.length) (aam op ag xs) [] && (aT ag dw 1 == 0 || aT ag dw 1 == 1)
def aan (op : ak) (ag : bn) (xs : af) : af := PO (lC (aam op ag xs) (Int.ofNat xs.length)) (aT ag dw 1) 0 xs
theorem mL (N : Nat) : (gy N).length = N := by simp [gy]
theorem ij (l : af) (r : Int) : (lC l r).length = l.length := by simp [lC]
def aao : List AV -> LHp -> Tq
 | [.d Y4 ((op, _, _, _, ag, _), _, _), .d zS xs], [] => .br (aF ag) (.br (decide (xs.length <= 2147483648)) (.br (TQ op ag xs) (dat (.slice aa) (aan op ag xs)) (pnc 131 4)) .no) .no
 | _, _ => .no
theorem TR : bg 150 (ao aao) := by
 have h1 := bD (d := 6) (l := [(9, [6, 7, 8, 39, 40, 41])]) Ee func150 call150
 refine aO fun args hs ae aH h' => ?_
 unfold aao at h'
 split at h'
 ·rename_i op nm ins out ag _ vs _ xs
  obtain ⟨hs, h2⟩ := Tq.br_no h'
  obtain ⟨hb, h3⟩ := Tq.br_no h2
  have hb := aU hb
  have hlen := bM hs
  refine h1.okO (.slice aa) (Eq.trans ?_ h3)
  refine Eq.trans (congrArg (cK _) (TO op nm ins out ag vs xs)) ?_
  have en : (Int.ofNat xs.length).toNat = xs.length := rfl
  have hL := jE hs du (ot := gy xs.length) (by rw [mL]; exact hb)
  have fin1 : ∀ (g : af) (c : Int), g.length <= 2147483648 -> cK (.slice aa) (hlp ee cX lb _ (jF g c xs 0) Nl) = some (.ret [.d (.slice aa) (PO g c 0 xs)], []) := fun g c hg => by
   refine Eq.trans (congrArg (cK _) ((afS g c xs).trans (aal hg hb))) ?_
   exact jD _ _
  rw [aD (show 0 <= Int.ofNat xs.length /\ Int.ofNat xs.length <= 2147483648 from ⟨by simp only [aK]; omega, by simp only [aK]; omega⟩), ai, hs, ai, en, aD (show (gy xs.length).length <= 2147483648 by rw [mL]; exact hb), ai, aD (show ag.length <= 9223372036854775807 by omega), ai]
  show _ = (bif TQ op ag xs then _ else _)
  unfold TQ aan aam
  change cK _ (bif op == pY then (bif eh (Int.ofNat xs.length) [aT ag dv 0] [] then (bif true then (bif aT ag dw 1 == 0 then _ else (bif !(aT ag dw 1 == 1) then _ else _)) else _) else _) else (bif decide ((al ag du (gy xs.length)).length <= 2147483648) then (bif eh (Int.ofNat xs.length) (al ag du (gy xs.length)) [] then (bif true then (bif aT ag dw 1 == 0 then _ else (bif !(aT ag dw 1 == 1) then _ else _)) else _) else _) else _)) = _
  rw [aD hL, ai, ai, ai]
  have key : ∀ (g : af), g.length <= 2147483648 -> cK (.slice aa) (bif aT ag dw 1 == 0 then hlp ee cX lb _ (jF g (aT ag dw 1) xs 0) Nl else (bif !(aT ag dw 1 == 1) then some (.panic 131 4, []) else hlp ee cX lb _ (jF g (aT ag dw 1) xs 0) Nl)) = (bif (aT ag dw 1 == 0 || aT ag dw 1 == 1) then (some (.ret [.d (.slice aa) (PO g (aT ag dw 1) 0 xs)], []) : Option (aq × LHp)) else some (.panic 131 4, [])) := fun g hg => by
   cases aT ag dw 1 == 0 with
   | true => rw [ai, Bool.true_or, ai]; exact fin1 g _ hg
   | false =>
    rw [ax, Bool.false_or]
    cases aT ag dw 1 == 1 with
    | true => rw [Bool.not_true, ax, ai]; exact fin1 g _ hg
    | false => rfl
  cases op == pY with
  | true =>
   rw [ai, ai]
   cases eh (Int.ofNat xs.length) [aT ag dv 0] [] with
   | false => rfl
   | true =>
    rw [ai, Bool.true_and]
    exact key [kF (aT ag dv 0) (Int.ofNat xs.length)] (by simp)
  | false =>
   rw [ax, ax]
   cases eh (Int.ofNat xs.length) (al ag du (gy xs.length)) [] with
   | false => rfl
   | true =>
    rw [ai, Bool.true_and]
    exact key _ (by rw [ij]; exact hL)
 ·cases h'
noncomputable def afT : FnE := b8 [(Y4), .slice aa] (ao aao)
theorem TS : bg 150 afT := bf TR
def qT (k r : Int) : Int := bif decide (k < 0) then (if (if r < i64.wrap (k + r) then r else i64.wrap (k + r)) > 0 then if r < i64.wrap (k + r) then r else i64.wrap (k + r) else 0) else (if (if r < k then r else k) > 0 then if r < k then r else k else 0)
def aap : List AV -> LHp -> Tq
 | [.d zI k, .d zI r], [] => .leaf (.ret [I (qT k r)]) []
 | _, _ => .no
theorem TT : bg 256 (ao aap) := by
 have h2 : bg 256 (au D2 f256 4 []) := FT
 refine aO fun args hs ae aH h' => ?_
 unfold aap at h'
 split at h'
 ·rename_i k r
  refine h2.okC ((aah k r).trans (Eq.trans ?_ h'))
  unfold qT
  simp only [Tq.run]
  cases decide (k < 0) <;> rfl
 ·cases h'
noncomputable def jZ : Env := afO.add 256 (ao aap)
theorem Eg : jZ.Good := IK.add TT
def qz (xs st en : af) (l : af) (i : Int) (o : af) : LSt := { fr := aw 7 [(1, .d (.slice aa) xs), (5, .d (.slice aa) st), (6, .d (.slice aa) en), (8, AV.os 0 0), (41, .d (.slice aa) l), (42, I (Int.ofNat l.length)), (43, I i)], hp := [(0, .arr 3 aa 0 false o)], nx := 1 }
theorem TU (op nm : ak) (ins : List (ak)) (out : ak) (ag : bn) (vs : b5) (xs : af) : aC jZ f219 7 [(6, [1, 5, 6, 8, 41, 42, 43])] [fD (op, nm, ins, out, ag, ()) vs, .d (.slice aa) xs] [] ah = bif aF ag then bif aF ag then bif decide (0 <= Int.ofNat (al ag oH []).length /\ Int.ofNat (al ag oH []).length <= 2147483648) then bif aF ag then bif decide ((gy (Int.ofNat (al ag oH []).length).toNat).length <= 2147483648) then bif decide ((al ag iu (gy (Int.ofNat (al ag oH []).length).toNat)).length <= 2147483648) then bif eh (Int.ofNat xs.length) (al ag iu (gy (Int.ofNat (al ag oH []).length).toNat)) [] then bif Int.ofNat (al ag oH []).length == Int.ofNat (al ag [101, 110, 100, 115] []).length then bif !Int.ofNat (al ag oH []).length == Int.ofNat (lC (al ag iu (gy (Int.ofNat (al ag oH []).length).toNat)) (Int.ofNat xs.length)).length then aV else bif decide (xs.length <= 2147483648) then (hlp jZ gP) Ec _ (qz xs (al ag oH []) (al ag [101, 110, 100, 115] []) (lC (al ag iu (gy (Int.ofNat (al ag oH []).length).toNat)) (Int.ofNat xs.length)) 0 xs) (aQ 0 (aX jZ gP [6] (hlp jZ gP) (cR (cR (cR (cR (cR (cR Nf)))))) (aZ prog 0 f219.results.toList ah))) else none else aV else aV else none else none else none else none else none else none := (bq [6] gP rfl).trans (by obtain ⟨hl, h⟩ := bc jZ gP; rw [h]; kernel_rfl)
theorem Ns (xs st en l : af) (i : Int) (o : af) (n : Nat) {R : Type} (k : AEx -> LSt -> Option R) : lp jZ gP Ec (n + 1) (qz xs st en l i o) k = bif decide (i < Int.ofNat l.length) then (idx l i).bind fun v1 => (idx en i).bind fun v2 => (idx xs v1).bind fun v3 => (idx st i).bind fun v4 => (idx xs v1).bind fun v5 => (idx o v1).bind fun v6 => (fv o (Int.toNat v1) (i64.wrap (qT v2 v3 - qT v4 v5))).bind fun v7 => (idx v7 v1).bind fun v8 => (v7[Int.toNat v1]?).bind fun v9 => bif !decide (v9 > 0) then k (AEx.panic 131 4) { fr := aw 7 [(1, AV.d (aa).slice xs), (5, AV.d (aa).slice st), (6, AV.d (aa).slice en), (8, AV.os 0 0), (9, I i), (10, I v1), (41, AV.d (aa).slice l), (42, I (Int.ofNat l.length)), (43, I i), (44, B true), (45, I i), (46, AV.ip (aa) v1), (47, I v1), (48, AV.os 0 0), (49, I v1), (50, AV.d (aa).slice en), (51, I i), (52, AV.ip (aa) v2), (53, I v2), (54, AV.d (aa).slice xs), (55, I v1), (56, AV.ip (aa) v3), (57, I v3), (58, I (qT v2 v3)), (59, AV.d (aa).slice st), (60, I i), (61, AV.ip (aa) v4), (62, I v4), (63, AV.d (aa).slice xs), (64, I v1), (65, AV.ip (aa) v5), (66, I v5), (67, I (qT v4 v5)), (68, I (i64.wrap (qT v2 v3 - qT v4 v5))), (69, AV.oe 0 0 (Int.toNat v1)), (70, AV.os 0 0), (71, I v1), (72, AV.oe 0 0 (Int.toNat v1)), (73, I v9), (74, B (decide (v9 > 0)))], hp := [(0, aj.arr 3 (aa) 0 false v7), (0, aj.arr 3 (aa) 0 false o)], nx := 1 } else lp jZ gP Ec n (qz xs st en l (i64.wrap (i + 1)) v7) k else k (AEx.exit 0) { fr := aw 7 [(1, AV.d (aa).slice xs), (5, AV.d (aa).slice st), (6, AV.d (aa).slice en), (8, AV.os 0 0), (41, AV.d (aa).slice l), (42, I (Int.ofNat l.length)), (43, I i), (44, B false)], hp := [(0, aj.arr 3 (aa) 0 false o)], nx := 1 } := by kernel_rfl
noncomputable def eW : Env := ((D2.add 149 (ao IC)).add 59 (ao qO)).add 107 (ao uV)
theorem IM : eW.Good := ((kC.add rB).add ig).add jY
theorem aaq (op nm : ak) (ins : List (ak)) (out : ak) (ag : bn) (vs : b5) (xs : af) : aC eW f218 6 [(4, [1, 5, 6, 21, 22, 23]), (8, [1, 5, 6, 21, 22, 23, 35, 36, 37])] [fD (op, nm, ins, out, ag, ()) vs, .d (.slice aa) xs] [] ah = bif decide (ag.length <= 9223372036854775807) then bif qR (aT ag cG 0) (Int.ofNat xs.length) then bif decide (xs.length <= 2147483648) then (if (0 : Int) <= 1 /\ 1 <= Int.ofNat vs.length /\ Int.ofNat vs.length <= Int.ofNat vs.length then some (List.drop 1 (List.take (Int.ofNat vs.length).toNat vs)) else none).bind fun v3 => (hlp eW bQ) qS _ { fr := aw 6 [(1, AV.d (aa).slice xs), (5, I (kF (aT ag cG 0) (Int.ofNat xs.length))), (6, AV.os 0 0), (21, AV.d Y3.slice v3), (22, I (Int.ofNat v3.length)), (23, I 0)], hp := [(0, aj.arr 3 (aa) 0 false xs)], nx := 1 } (aQ 0 (aX eW bQ [4, 8] (hlp eW bQ) (cR (cR (cR (cR wi)))) (aZ prog 0 f218.results.toList ah))) else none else aV else none := (bq [4, 8] bQ rfl).trans (by obtain ⟨hl, h⟩ := bc eW bQ; rw [h]; kernel_rfl)
noncomputable def oW : Env := (ry.add 215 TP).add 107 (ao uV)
theorem IN : oW.Good := (dB.add yh).add jY
theorem aar (op nm : ak) (ins : List (ak)) (out : ak) (ag : bn) (vs : b5) (xs : af) : aC oW f221 6 [(4, [1, 5, 6, 17, 18])] [fD (op, nm, ins, out, ag, ()) vs, .d (.slice aa) xs] [] ah = bif aF ag then bif cJ (i64.wrap (Int.ofNat (2 * xs.length))) 0 65536 (al ag dq []) then bif decide (xs.length <= 2147483648) then (hlp oW gQ) Ed _ { fr := aw 6 [(1, AV.d (aa).slice xs), (5, AV.d (aa).slice (al ag dq [])), (6, AV.os 0 0), (17, I (Int.ofNat xs.length)), (18, I 0)], hp := [(0, aj.arr 3 (aa) 0 false xs)], nx := 1 } (aQ 0 (aX oW gQ [4] (hlp oW gQ) (cR (cR (cR (cR Nh)))) (aZ prog 0 f221.results.toList ah))) else none else aV else none := (bq [4] gQ rfl).trans (by obtain ⟨hl, h⟩ := bc oW gQ; rw [h]; kernel_rfl)
noncomputable def afU : Env := ry.add 59 (ao qO)
theorem IP : afU.Good := dB.add ig
theorem aas (op nm : ak) (ins : List (ak)) (out : ak) (ag : bn) (vs : b5) (xs : af) : aC afU f224 6 [] [fD (op, nm, ins, out, ag, ()) vs, .d (.slice aa) xs] [] ah = bif decide (ag.length <= 9223372036854775807) then bif decide (i64.wrap (0 - Int.ofNat xs.length) <= aT ag cG 1) then bif !decide (aT ag cG 1 <= Int.ofNat xs.length) then aV else bif decide (aT ag cG 1 < 0) then (if (0 : Int) <= 0 /\ 0 <= i64.wrap (aT ag cG 1 + Int.ofNat xs.length) /\ i64.wrap (aT ag cG 1 + Int.ofNat xs.length) <= Int.ofNat xs.length then some (List.drop 0 (List.take (i64.wrap (aT ag cG 1 + Int.ofNat xs.length)).toNat xs)) else none).bind fun v4 => bif decide (v4.length <= 9223372036854775807) then (if 0 <= i64.wrap (aT ag cG 1 + Int.ofNat xs.length) /\ i64.wrap (aT ag cG 1 + Int.ofNat xs.length) <= Int.ofNat xs.length /\ Int.ofNat xs.length <= Int.ofNat xs.length then some (List.drop (i64.wrap (aT ag cG 1 + Int.ofNat xs.length)).toNat (List.take (Int.ofNat xs.length).toNat xs)) else none).bind fun v6 => bif decide (v6.length <= 9223372036854775807) then some (aq.ret [AV.os 0 0], [(0, aj.arr 3 (aa) 0 false [aJ v4, aJ v6])]) else none else none else (if (0 : Int) <= 0 /\ 0 <= aT ag cG 1 /\ aT ag cG 1 <= Int.ofNat xs.length then some (List.drop 0 (List.take (aT ag cG 1).toNat xs)) else none).bind fun v4 => bif decide (v4.length <= 9223372036854775807) then (if 0 <= aT ag cG 1 /\ aT ag cG 1 <= Int.ofNat xs.length /\ Int.ofNat xs.length <= Int.ofNat xs.length then some (List.drop (aT ag cG 1).toNat (List.take (Int.ofNat xs.length).toNat xs)) else none).bind fun v6 => bif decide (v6.length <= 9223372036854775807) then some (aq.ret [AV.os 0 0], [(0, aj.arr 3 (aa) 0 false [aJ v4, aJ v6])]) else none else none else aV else none := by kernel_rfl
def aat : List AV -> LHp -> Tq
 | [.d zI m], [] => .br (decide (0 <= m /\ m <= 2147483648)) (.leaf (.ret [.os 0 0]) [(0, .arr 2 aa 0 false (gy m.toNat))]) .no
 | _, _ => .no
theorem GF (T : Nat) (xs : af) : (gq T xs).bind (fun p => bif tH p.1 then (bif cj p.2.length p.2 then ah (.ret [.os p.2.length 0]) (p.2 ++ [(p.2.length, .arr T aa 0 false [])]) else none) else ah p.1 p.2) = some (.ret [.os 0 0], [(0, .arr T aa 0 false xs)]) := by cases xs <;> rfl
theorem TV : bg 210 (ao aat) := by
 have h0 := bD (d := 4) (l := [(3, [3, 5, 6])]) jy func210 call210
 have h1 : bg 210 (IG 2 aa (au jP f210 4 [(3, [3, 5, 6])])) := pX h0
 refine aO fun args hs ae aH h' => ?_
 unfold aat at h'
 split at h'
 ·rename_i m
  obtain ⟨hb, h2⟩ := Tq.br_no h'
  obtain ⟨h3, h4⟩ := aU hb
  cases h2
  obtain ⟨N, rfl⟩ := Int.eq_ofNat_of_zero_le h3
  refine h1.ok _ _ _ _ ?_
  simp only [IG]
  rw [h0.eq]
  have e : (au jP f210 4 [(3, [3, 5, 6])]).run [I (N : Int)] [] (fun a h => some (a, h)) = gq 2 (gy N) := (Mr _).trans ((Wl _).trans (M1 (Int.ofNat_le.1 h4)))
  rw [e]
  exact GF _ _
 ·cases h'
theorem Nt {k r : Int} (h0 : 0 <= r) (h1 : r <= 4294967296) (h : qR k r = true) : 0 <= kF k r /\ kF k r < r := by
 unfold qR at h
 rw [ba] at h
 have h2 := aU h.1
 have h3 := aU h.2
 unfold kF
 rw [aI (by omega) (by omega)] at h2
 cases hk : decide (k < 0) with
 | true =>
  have := aU hk
  rw [ai, aI (by omega) (by omega)]
  omega
 | false =>
  have := nz hk
  rw [ax]
  omega
theorem cS {xs : af} {i : Nat} (h : i < xs.length) : idx xs ((i : Nat) : Int) = some (xs.getD i 0) := by
 unfold idx
 rw [if_pos (by omega), Int.toNat_natCast, List.getD_eq_getElem?_getD, List.getElem?_eq_getElem h]
 rfl
theorem Eh {xs : af} {k : Int} (h0 : 0 <= k) (h1 : k < (xs.length : Int)) : idx xs k = some (xs.getD k.toNat 0) := by
 obtain ⟨n, rfl⟩ := Int.eq_ofNat_of_zero_le h0
 exact cS (by omega)
def yi (xs st en : af) (i : Nat) (k : Int) : Int := i64.wrap (qT (en.getD i 0) (xs.getD k.toNat 0) - qT (st.getD i 0) (xs.getD k.toNat 0))
def slD (xs st en : af) : Nat -> List Int -> List Int -> Option (af)
 | _, [], o => some o
 | i, k :: l, o => bif decide (yi xs st en i k > 0) then slD xs st en (i + 1) l (o.set k.toNat (yi xs st en i k)) else none
def slN (xs st en : af) (a : Nat × af) (k : Int) : Nx (Nat × af) (aq × LHp) := bif decide (yi xs st en a.1 k > 0) then .go (a.1 + 1, a.2.set k.toNat (yi xs st en a.1 k)) else .stop (some (.panic 131 4, []))
def yj (T : Nat) (o : Option (af)) : Option (aq × LHp) := match o with
 | some xs => some (.ret [.os 0 0], [(0, .arr T aa 0 false xs)])
 | none => some (.panic 131 4, [])
theorem GG (xs st en : af) : ∀ (l : af) (i : Nat) (o : af), cg (slN xs st en) (fun a => yj 3 (some a.2)) l (i, o) = yj 3 (slD xs st en i l o)
 | [], i, o => rfl
 | k :: l, i, o => by
  have e : slN xs st en (i, o) k = bif decide (yi xs st en i k > 0) then .go (i + 1, o.set k.toNat (yi xs st en i k)) else .stop (some (.panic 131 4, [])) := rfl
  rw [cg, e, slD]
  cases decide (yi xs st en i k > 0) with
  | false => rfl
  | true => exact GG xs st en l (i + 1) _
noncomputable def KSl : AEx -> LSt -> Option (aq × LHp) := (aQ 0 (aX jZ gP [6] (hlp jZ gP) (cR (cR (cR (cR (cR (cR Nf)))))) (aZ prog 0 f219.results.toList ah)))
theorem aav {xs st en l : af} (hx : xs.length <= 2147483648) (h1 : st.length = l.length) (h2 : en.length = l.length) (hl : l.length <= 2147483648) (hk : ∀ k ∈ l, 0 <= k /\ k < (xs.length : Int)) : lp jZ gP Ec fu (qz xs st en l 0 xs) KSl = yj 3 (slD xs st en 0 l xs) := by
 have hm : maxLen = 9223372036854775807 := by decide
 refine (cq (xs := l) (T := fun n s => lp jZ gP Ec n s KSl) (st := fun (i : Int) (a : Nat × af) => qz xs st en l i a.2) (f := slN xs st en) (fin := fun (a : Nat × af) => yj 3 (some a.2)) (fun (i : Nat) (a : Nat × af) => a.1 = i /\ a.2.length = xs.length) (by omega) ?_ ?_ (a := (0, xs)) ⟨rfl, rfl⟩).trans (GG xs st en l 0 xs)
 ·rintro i ⟨i', o⟩ k n ⟨rfl, hI⟩ fc gx gi hw hd
  have hI : o.length = xs.length := hI
  have fc : i' < l.length := fc
  obtain ⟨k0, k1⟩ := hk k (List.mem_of_getElem? gx)
  have hkn : k.toNat < o.length := by omega
  have gs : fv o k.toNat (yi xs st en i' k) = some (o.set k.toNat (yi xs st en i' k)) := by unfold fv; rw [show Nat.blt k.toNat o.length = true from Nat.ble_eq_true_of_le hkn]; rfl
  have gl : (o.set k.toNat (yi xs st en i' k)).length = xs.length := by rw [List.length_set]; exact hI
  have g9 : (o.set k.toNat (yi xs st en i' k))[k.toNat]? = some (yi xs st en i' k) := by rw [List.getElem?_set_self hkn]
  have g8 : idx (o.set k.toNat (yi xs st en i' k)) k = some (yi xs st en i' k) := by unfold idx; rw [if_pos (by omega), g9]
  have e : slN xs st en (i', o) k = bif decide (yi xs st en i' k > 0) then .go (i' + 1, o.set k.toNat (yi xs st en i' k)) else .stop (some (.panic 131 4, [])) := rfl
  have ew : i64.wrap (qT (en.getD i' 0) (xs.getD k.toNat 0) - qT (st.getD i' 0) (xs.getD k.toNat 0)) = yi xs st en i' k := rfl
  have lB : (i' : Int) < (l.length : Int) := by omega
  have ge : idx en (i' : Int) = some (en.getD i' 0) := Eh (k := (i' : Int)) (by omega) (by omega)
  have gt : idx st (i' : Int) = some (st.getD i' 0) := Eh (k := (i' : Int)) (by omega) (by omega)
  have go : idx o k = some (o.getD k.toNat 0) := Eh k0 (by omega)
  have hs := Ns xs st en l (i' : Int) o n KSl
  rw [hd, ai, gi, aB, ge, aB, Eh k0 k1, aB, gt, aB, aB, go, aB, ew, gs, aB, g8, aB, g9, aB, hw] at hs
  cases hq : decide (yi xs st en i' k > 0) with
  | true =>
   rw [hq, Bool.not_true, ax] at hs
   rw [hq, ai] at e
   exact .inl ⟨_, e, ⟨rfl, gl⟩, hs⟩
  | false =>
   rw [hq, ax] at e
   rw [hq, Bool.not_false, ai] at hs
   exact .inr ⟨_, e, hs.trans (by kernel_rfl)⟩
 ·rintro ⟨i', o⟩ n ⟨hI, _⟩ hd
  show lp _ _ _ (n + 1) (qz xs st en l (l.length : Int) o) _ = _
  rw [Ns, hd, ax]
  show _ = _
  kernel_rfl
theorem afW (xs st en l : af) : hlp jZ gP Ec (aq × LHp) (qz xs st en l 0 xs) KSl = lp jZ gP Ec fu (qz xs st en l 0 xs) KSl := rfl
def bP : ak := oH
def mM : ak := [101, 110, 100, 115]
def slA (ag : bn) : af := al ag du (gy (al ag bP []).length)
def IQ (ag : bn) (xs : af) : Option (af) := bif eh (Int.ofNat xs.length) (slA ag) [] && (Int.ofNat (al ag bP []).length == Int.ofNat (al ag mM []).length && Int.ofNat (al ag bP []).length == Int.ofNat (slA ag).length) then slD xs (al ag bP []) (al ag mM []) 0 (lC (slA ag) (Int.ofNat xs.length)) xs else none
def tI (o : Option (af)) : Tq := .br o.isSome (dat (.slice aa) (o.getD [])) (pnc 131 4)
def TW (k : Bool) (l : af) : Tq := .br k (dat (.slice aa) l) (pnc 131 4)
theorem jG (T : Nat) (o : Option (af)) : cK (.slice aa) (yj T o) = (tI o).run ah := by cases o <;> rfl
def Ei (ag : bn) (xs : af) : Bool := (IQ ag xs).isSome
def Ej (ag : bn) (xs : af) : af := (IQ ag xs).getD []
def aax : List AV -> LHp -> Tq
 | [.d Y4 ((_, _, _, _, ag, _), _, _), .d zS xs], [] => .br (aF ag) (.br (decide (xs.length <= 2147483648)) (TW (Ei ag xs) (Ej ag xs)) .no) .no
 | _, _ => .no
theorem tJ {r : Int} : ∀ {l o : af}, eh r l o = true -> ∀ a ∈ l, qR a r = true
 | [], _, _, _, h => by cases h
 | a :: l, o, h, b, hb => by
  rw [eh, ba, ba] at h
  rcases List.mem_cons.1 hb with rfl | hb
  ·exact h.1
  ·exact tJ h.2.2 b hb
theorem TX : bg 219 (ao aax) := by
 have h1 := bD (d := 7) (l := [(6, [1, 5, 6, 8, 41, 42, 43])]) Eg func219 call219
 refine aO fun args hs ae aH h' => ?_
 unfold aax at h'
 split at h'
 ·rename_i op nm ins out ag _ vs _ xs
  obtain ⟨hs, h2⟩ := Tq.br_no h'
  obtain ⟨hb, h3⟩ := Tq.br_no h2
  have hb := aU hb
  refine h1.okO (.slice aa) (Eq.trans ?_ (show (tI (IQ ag xs)).run ah = some (ae, aH) from h3))
  refine Eq.trans (congrArg (cK _) (TU op nm ins out ag vs xs)) ?_
  have hS := jE hs bP (ot := []) (by decide)
  have hA := jE hs du (ot := gy (al ag bP []).length) (by rw [mL]; exact hS)
  rw [← jG 3]
  unfold IQ slA
  change cK _ (bif aF ag then (bif aF ag then (bif decide (0 <= Int.ofNat (al ag bP []).length /\ Int.ofNat (al ag bP []).length <= 2147483648) then (bif aF ag then (bif decide ((gy (al ag bP []).length).length <= 2147483648) then (bif decide ((al ag du (gy (al ag bP []).length)).length <= 2147483648) then (bif eh (Int.ofNat xs.length) (al ag du (gy (al ag bP []).length)) [] then (bif Int.ofNat (al ag bP []).length == Int.ofNat (al ag mM []).length then (bif !(Int.ofNat (al ag bP []).length == Int.ofNat (lC (al ag du (gy (al ag bP []).length)) (Int.ofNat xs.length)).length) then _ else (bif decide (xs.length <= 2147483648) then _ else _)) else _) else _) else _) else _) else _) else _) else _) else _) = _
  rw [hs, ai, ai, aD (show 0 <= Int.ofNat (al ag bP []).length /\ Int.ofNat (al ag bP []).length <= 2147483648 from ⟨by simp only [aK]; omega, by simp only [aK]; omega⟩), ai, ai, aD (show (gy (al ag bP []).length).length <= 2147483648 by rw [mL]; exact hS), ai, aD hA, ai, aD hb, ai, ij]
  cases hq : eh (Int.ofNat xs.length) (al ag du (gy (al ag bP []).length)) [] with
  | false => rfl
  | true =>
   cases Hs : Int.ofNat (al ag bP []).length == Int.ofNat (al ag mM []).length with
   | false => rfl
   | true =>
    cases hq3 : Int.ofNat (al ag bP []).length == Int.ofNat (al ag du (gy (al ag bP []).length)).length with
    | false => rfl
    | true =>
     have e2 := eq_of_beq Hs
     have e3 := eq_of_beq hq3
     simp only [aK] at e2 e3
     rw [ai, ai, Bool.not_true, ax]
     have h8 : ∀ k ∈ lC (al ag du (gy (al ag bP []).length)) (Int.ofNat xs.length), 0 <= k /\ k < (xs.length : Int) := by
      intro k hk
      obtain ⟨a, ha, rfl⟩ := List.mem_map.1 hk
      have h5 := Nt (r := Int.ofNat xs.length) (by simp only [aK]; omega) (by simp only [aK]; omega) (tJ hq a ha)
      simpa using h5
     have h9 := (afW xs (al ag bP []) (al ag mM []) (lC (al ag du (gy (al ag bP []).length)) (Int.ofNat xs.length))).trans (aav hb (by rw [ij]; omega) (by rw [ij]; omega) (by rw [ij]; exact hA) h8)
     exact congrArg (cK (.slice aa)) h9
 ·cases h'
noncomputable def afX : FnE := b8 [(Y4), .slice aa] (ao aax)
theorem TY : bg 219 afX := bf TX
def Ek (xs ps : af) (N : Int) (i : Int) (o : af) : LSt := { fr := aw 6 [(1, .d (.slice aa) xs), (5, .d (.slice aa) ps), (6, AV.os 0 0), (17, I N), (18, I i)], hp := [(0, .arr 3 aa 0 false o)], nx := 1 }
theorem Wo (xs ps : af) (N : Int) (i : Int) (o : af) (n : Nat) {R : Type} (k : AEx -> LSt -> Option R) : lp oW gQ Ed (n + 1) (Ek xs ps N i o) k = bif decide (i < N) then (idx o i).bind fun v1 => (o[i.toNat]?).bind fun v2 => (idx ps i).bind fun v3 => (idx ps (i64.wrap (Int.ofNat xs.length + i))).bind fun v4 => (idx o i).bind fun v5 => (fv o i.toNat (i64.wrap (v2 + i64.wrap (v3 + v4)))).bind fun v6 => lp oW gQ Ed n (Ek xs ps N (i64.wrap (i + 1)) v6) k else k (AEx.exit 0) { fr := aw 6 [(1, AV.d (aa).slice xs), (5, AV.d (aa).slice ps), (6, AV.os 0 0), (17, I N), (18, I i), (19, B false)], hp := [(0, aj.arr 3 (aa) 0 false o)], nx := 1 } := by kernel_rfl
def oX (xs : af) (a : Int) (vs : b5) (i : Int) (o : af) : LSt := { fr := aw 6 [(1, .d (.slice aa) xs), (5, I a), (6, AV.os 0 0), (21, .d (.slice (Y3)) vs), (22, I (Int.ofNat vs.length)), (23, I i)], hp := [(0, .arr 3 aa 0 false o)], nx := 1 }
theorem Wp (xs : af) (a : Int) (vs : b5) (i : Int) (o : af) (n : Nat) {R : Type} (k : AEx -> LSt -> Option R) : lp eW bQ qS (n + 1) (oX xs a vs i o) k = bif decide (i < Int.ofNat vs.length) then (idx vs i).bind fun v1 => bif !Int.ofNat (List.length v1.2.2.1) == Int.ofNat xs.length then k (AEx.panic 131 4) { fr := aw 6 [(1, AV.d (aa).slice xs), (5, I a), (6, AV.os 0 0), (8, AV.op 1 [] 0), (21, AV.d Y3.slice vs), (22, I (Int.ofNat vs.length)), (23, I i), (24, B true), (25, AV.ip Y3 v1), (26, AV.d Y3 v1), (27, AV.op 1 [2] 2), (28, AV.d (aa).slice v1.2.2.1), (29, I (Int.ofNat (List.length v1.2.2.1))), (30, AV.d (aa).slice xs), (31, I (Int.ofNat xs.length)), (32, B (Int.ofNat (List.length v1.2.2.1) == Int.ofNat xs.length))], hp := [(1, aj.box (AV.d Y3 v1)), (1, aj.box ((AV.d Ty.str []).pr ((I 0).pr (AV.nils.pr (AV.d Ty.unit PUnit.unit))))), (0, aj.arr 3 (aa) 0 false o)], nx := 2 } else (hlp eW bQ) BR _ { fr := aw 6 [(1, AV.d (aa).slice xs), (5, I a), (6, AV.os 0 0), (21, AV.d Y3.slice vs), (22, I (Int.ofNat vs.length)), (23, I i), (35, AV.d (aa).slice v1.2.2.1), (36, I (Int.ofNat (List.length v1.2.2.1))), (37, I 0)], hp := [(0, aj.arr 3 (aa) 0 false o)], nx := 1 } (aQ 2 (aQ 1 (aX eW bQ [4, 8] (hlp eW bQ) (cR (cR (cR (cL (cL (cR (cL (cR (cR (cR wi)))))))))) (oE eW bQ [4, 8] (hlp eW bQ) qS n k)))) else k (AEx.exit 0) { fr := aw 6 [(1, AV.d (aa).slice xs), (5, I a), (6, AV.os 0 0), (21, AV.d Y3.slice vs), (22, I (Int.ofNat vs.length)), (23, I i), (24, B false)], hp := [(0, aj.arr 3 (aa) 0 false o)], nx := 1 } := by
 rw [lY [4, 8]]
 obtain ⟨hl, h⟩ := bc eW bQ
 rw [h]
 kernel_rfl
def BU (xs : af) (a : Int) (vs : b5) (j : Int) (ds : af) (i : Int) (o : af) : LSt := { fr := aw 6 [(1, .d (.slice aa) xs), (5, I a), (6, AV.os 0 0), (21, .d (.slice (Y3)) vs), (22, I (Int.ofNat vs.length)), (23, I j), (35, .d (.slice aa) ds), (36, I (Int.ofNat ds.length)), (37, I i)], hp := [(0, .arr 3 aa 0 false o)], nx := 1 }
theorem Wq (xs : af) (a : Int) (vs : b5) (j : Int) (ds : af) (i : Int) (o : af) (n : Nat) {R : Type} (k : AEx -> LSt -> Option R) : lp eW bQ BR (n + 1) (BU xs a vs j ds i o) k = bif decide (i < Int.ofNat ds.length) then (idx ds i).bind fun v1 => bif i == a then (idx o i).bind fun v3 => (o[i.toNat]?).bind fun v4 => (idx o i).bind fun v5 => (fv o i.toNat (i64.wrap (v4 + v1))).bind fun v6 => lp eW bQ BR n (BU xs a vs j ds (i64.wrap (i + 1)) v6) k else (idx xs i).bind fun v3 => bif !v1 == v3 then k (AEx.panic 131 4) { fr := aw 6 [(1, AV.d (aa).slice xs), (5, I a), (6, AV.os 0 0), (9, I i), (10, I v1), (21, AV.d Y3.slice vs), (22, I (Int.ofNat vs.length)), (23, I j), (35, AV.d (aa).slice ds), (36, I (Int.ofNat ds.length)), (37, I i), (38, B true), (39, I i), (40, AV.ip (aa) v1), (41, I v1), (42, I i), (43, I a), (44, B false), (52, I v1), (53, AV.d (aa).slice xs), (54, I i), (55, AV.ip (aa) v3), (56, I v3), (57, B (v1 == v3))], hp := [(0, aj.arr 3 (aa) 0 false o)], nx := 1 } else lp eW bQ BR n (BU xs a vs j ds (i64.wrap (i + 1)) o) k else k (AEx.exit 2) { fr := aw 6 [(1, AV.d (aa).slice xs), (5, I a), (6, AV.os 0 0), (21, AV.d Y3.slice vs), (22, I (Int.ofNat vs.length)), (23, I j), (35, AV.d (aa).slice ds), (36, I (Int.ofNat ds.length)), (37, I i), (38, B false)], hp := [(0, aj.arr 3 (aa) 0 false o)], nx := 1 } := by kernel_rfl
abbrev BV := af × Int × Int
def BW (o : af) (a p d : Int) : Nx BV (aq × LHp) := bif decide (d >= 1) then (bif decide (d <= 65536) then (bif decide (i64.wrap (p * d) <= 65536) then .go (o ++ [d], a, i64.wrap (p * d)) else .stop (some (.panic 131 4, []))) else .stop (some (.panic 131 4, []))) else .stop (some (.panic 131 4, []))
def El (xs : af) (s : BV) (x : Int) : Nx BV (aq × LHp) := bif x == -1 && decide (s.2.1 < 0) then BW s.1 (s.1.length : Int) s.2.2 1 else bif x == 0 && decide ((s.1.length : Int) < Int.ofNat xs.length) then BW s.1 s.2.1 s.2.2 (xs.getD s.1.length 0) else BW s.1 s.2.1 s.2.2 x
def wj (xs : af) (s : BV) : Option (aq × LHp) := bif decide (s.2.1 >= 0) then (bif (aJ xs).tmod s.2.2 == 0 then gq 3 (s.1.set s.2.1.toNat (i64.wrap ((aJ xs).tdiv s.2.2))) else some (.panic 131 4, [])) else bif aJ xs == s.2.2 then gq 3 s.1 else some (.panic 131 4, [])
def Em (xs l : af) (i : Int) (s : BV) : LSt := match s.1 with
 | [] => qy xs s.2.1 s.2.2 l i
 | v :: o => fY (v :: o) xs s.2.1 s.2.2 l i
def RsI (i : Nat) (s : BV) : Prop := s.1.length = i /\ s.2.1 < (i : Int) /\ 1 <= s.2.2 /\ s.2.2 <= 65536
theorem TZ {o : af} {a p d : Int} {i : Nat} {s : BV} (h1 : o.length = i) (h2 : a < (i : Int) + 1) (h3 : 1 <= p) (h4 : p <= 65536) (h : BW o a p d = .go s) : RsI (i + 1) s := by
 unfold BW at h
 cases h5 : decide (d >= 1) with
 | false => rw [h5] at h; cases h
 | true =>
  cases h6 : decide (d <= 65536) with
  | false => rw [h5, h6] at h; cases h
  | true =>
   cases h7 : decide (i64.wrap (p * d) <= 65536) with
   | false => rw [h5, h6, h7] at h; cases h
   | true =>
    rw [h5, h6, h7] at h
    cases h
    have k5 := aU h5
    have k6 := aU h6
    have k7 := aU h7
    have b1 : p * d <= 65536 * 65536 := Int.mul_le_mul h4 k6 (by omega) (by omega)
    have b2 : 1 * 1 <= p * d := Int.mul_le_mul h3 k5 (by omega) (by omega)
    have w : i64.wrap (p * d) = p * d := aI (by omega) (by omega)
    refine ⟨by rw [List.length_append, List.length_singleton, h1], by push_cast; omega, ?_, k7⟩
    show 1 <= i64.wrap (p * d)
    rw [w]; omega
def rsT {X : Type} (P : X) (T : BV -> X) (o : af) (a p d : Int) : X := bif decide (d >= 1) then (bif !decide (d <= 65536) then P else bif !decide (i64.wrap (p * d) <= 65536) then P else T (o ++ [d], a, i64.wrap (p * d))) else P
theorem wm {o : af} {a p d : Int} {i : Nat} (h1 : o.length = i) (h2 : a < (i : Int) + 1) (h3 : 1 <= p) (h4 : p <= 65536) {x : Nx BV (aq × LHp)} {s : Option (aq × LHp)} {T : BV -> Option (aq × LHp)} (hx : x = BW o a p d) (hs : s = rsT (some (.panic 131 4, [])) T o a p d) :
  (∃ a', x = .go a' /\ RsI (i + 1) a' /\ s = T a') \/ (∃ r, x = .stop r /\ s = r) := by
 cases hq : BW o a p d with
 | go a' =>
  refine .inl ⟨a', hx.trans hq, TZ h1 h2 h3 h4 hq, hs.trans ?_⟩
  unfold BW at hq
  unfold rsT
  cases h5 : decide (d >= 1) with
  | false => rw [h5] at hq; cases hq
  | true =>
   cases h6 : decide (d <= 65536) with
   | false => rw [h5, h6] at hq; cases hq
   | true =>
    cases h7 : decide (i64.wrap (p * d) <= 65536) with
    | false => rw [h5, h6, h7] at hq; cases hq
    | true => rw [h5, h6, h7] at hq; cases hq; rfl
 | stop r =>
  refine .inr ⟨r, hx.trans hq, hs.trans ?_⟩
  unfold BW at hq
  unfold rsT
  cases h5 : decide (d >= 1) with
  | false => rw [h5] at hq; cases hq; rfl
  | true =>
   cases h6 : decide (d <= 65536) with
   | false => rw [h5, h6] at hq; cases hq; rfl
   | true =>
    cases h7 : decide (i64.wrap (p * d) <= 65536) with
    | false => rw [h5, h6, h7] at hq; cases hq; rfl
    | true => rw [h5, h6, h7] at hq; cases hq
theorem IS {xs l : af} {a p : Int} {i : Nat} (hI : List.length ([] : af) = i) (h2 : a < (i : Int)) (h3 : 1 <= p) (h4 : p <= 65536) (hl : l.length <= 2147483648) {x : Int} {n : Nat} (hi : i < l.length) (gi : idx l (i : Int) = some x) (hw : i64.wrap ((i : Int) + 1) = ((i + 1 : Nat) : Int)) (hd : decide ((i : Int) < Int.ofNat l.length) = true) :
    (∃ a', El xs (([] : af), a, p) x = .go a' /\ RsI (i + 1) a' /\ lp dP bF fF (n + 1) (qy xs a p l (i : Int)) nY = lp dP bF fF n (Em xs l ((i + 1 : Nat) : Int) a') nY) \/ (∃ r, El xs (([] : af), a, p) x = .stop r /\ lp dP bF fF (n + 1) (qy xs a p l (i : Int)) nY = r) := by
  have hs := Nq xs a p l (i : Int) n
  have ha : ∀ y : Int, app ([]) [y] = some (([]) ++ [y]) := fun y => dI (by rw [hI, List.length_singleton, show lim = 4294967296 from rfl]; omega)
  have hL : ((List.length ([] : af) : Nat) : Int) = (i : Int) := by rw [hI]
  have eN : El xs (([] : af), a, p) x = bif x == -1 && decide (a < 0) then BW ([]) (i : Int) p 1 else bif x == 0 && decide ((i : Int) < Int.ofNat xs.length) then BW ([]) a p (xs.getD i 0) else BW ([]) a p x := by
    unfold El
    simp only [hL, hI]
  rw [hd, ai, gi, aB, hw] at hs
  simp only [ha, aB] at hs
  have lB : a < (i : Int) + 1 := by omega
  have T1 : (fun s => lp dP bF fF n (Em xs l ((i + 1 : Nat) : Int) s) nY) = fun s => lp dP bF fF n (Em xs l ((i + 1 : Nat) : Int) s) nY := rfl
  cases c1 : x == -1 <;> cases c2 : decide (a < 0) <;> cases c3 : x == 0 <;> cases c4 : decide ((i : Int) < Int.ofNat xs.length) <;>
    (rw [c1, c2, c3, c4] at eN
     rw [c1] at hs
     try rw [c2] at hs
     try rw [c3] at hs
     try rw [c4] at hs
     first
       | exact wm hI lB h3 h4 eN hs
       | (refine wm (d := 1) hI (show (i : Int) < (i : Int) + 1 by omega) h3 h4 eN (hs.trans ?_)
          kernel_rfl)
       | (rw [cS (Int.ofNat_lt.1 (aU c4))] at hs
          exact wm hI lB h3 h4 eN hs))
theorem IT {xs l : af} {a p : Int} {i : Nat} {v : Int} {o : af} (hI : List.length (v :: o : af) = i) (h2 : a < (i : Int)) (h3 : 1 <= p) (h4 : p <= 65536) (hl : l.length <= 2147483648) {x : Int} {n : Nat} (hi : i < l.length) (gi : idx l (i : Int) = some x) (hw : i64.wrap ((i : Int) + 1) = ((i + 1 : Nat) : Int)) (hd : decide ((i : Int) < Int.ofNat l.length) = true) :
    (∃ a', El xs ((v :: o : af), a, p) x = .go a' /\ RsI (i + 1) a' /\ lp dP bF fF (n + 1) (fY (v :: o) xs a p l (i : Int)) nY = lp dP bF fF n (Em xs l ((i + 1 : Nat) : Int) a') nY) \/ (∃ r, El xs ((v :: o : af), a, p) x = .stop r /\ lp dP bF fF (n + 1) (fY (v :: o) xs a p l (i : Int)) nY = r) := by
  have hs := Nr v o xs a p l (i : Int) n
  have ha : ∀ y : Int, app (v :: o) [y] = some ((v :: o) ++ [y]) := fun y => dI (by rw [hI, List.length_singleton, show lim = 4294967296 from rfl]; omega)
  have hL : ((List.length (v :: o : af) : Nat) : Int) = (i : Int) := by rw [hI]
  have eN : El xs ((v :: o : af), a, p) x = bif x == -1 && decide (a < 0) then BW (v :: o) (i : Int) p 1 else bif x == 0 && decide ((i : Int) < Int.ofNat xs.length) then BW (v :: o) a p (xs.getD i 0) else BW (v :: o) a p x := by
    unfold El
    simp only [hL, hI]
  rw [hd, ai, gi, aB, hw] at hs
  simp only [ha, aB] at hs
  have lB : a < (i : Int) + 1 := by omega
  have T1 : (fun s => lp dP bF fF n (Em xs l ((i + 1 : Nat) : Int) s) nY) = fun s => lp dP bF fF n (Em xs l ((i + 1 : Nat) : Int) s) nY := rfl
  cases c1 : x == -1 <;> cases c2 : decide (a < 0) <;> cases c3 : x == 0 <;> cases c4 : decide ((i : Int) < Int.ofNat xs.length) <;>
    (rw [c1, c2, c3, c4] at eN
     rw [c1] at hs
     try rw [c2] at hs
     try rw [c3] at hs
     try rw [c4] at hs
     first
       | exact wm hI lB h3 h4 eN hs
       | (refine wm (d := 1) hI (show (i : Int) < (i : Int) + 1 by omega) h3 h4 eN (hs.trans ?_)
          kernel_rfl)
       | (rw [cS (Int.ofNat_lt.1 (aU c4))] at hs
          exact wm hI lB h3 h4 eN hs))
theorem aay {xs l : af} (hx : xs.length <= 2147483648) (hl : l.length <= 2147483648) : lp dP bF fF fu (qy xs (-1) 1 l 0) nY = cg (El xs) (wj xs) l ([], -1, 1) := by
 have hm : maxLen = 9223372036854775807 := by decide
 refine cq (xs := l) (T := fun n s => lp dP bF fF n s nY) (st := fun (i : Int) (s : BV) => Em xs l i s) (f := El xs) (fin := wj xs) (fun (i : Nat) (s : BV) => RsI i s) (by omega) ?_ ?_ (a := ([], -1, 1)) ⟨rfl, by decide, by decide, by decide⟩
 ·rintro i ⟨o, a, p⟩ x n ⟨h1, h2, h3, h4⟩ hi gx gi hw hd
  cases o with
  | nil => exact IS h1 h2 h3 h4 hl hi gi hw hd
  | cons v o => exact IT h1 h2 h3 h4 hl hi gi hw hd
 ·rintro ⟨o, a, p⟩ n ⟨h1, h2, h3, h4⟩ hd
  have h1 : o.length = l.length := h1
  have h2 : a < (l.length : Int) := h2
  have h3 : 1 <= p := h3
  have hp : p ≠ 0 := by omega
  have hfin : wj xs (o, a, p) = bif decide (a >= 0) then (bif (aJ xs).tmod p == 0 then gq 3 (o.set a.toNat (i64.wrap ((aJ xs).tdiv p))) else some (.panic 131 4, [])) else bif aJ xs == p then gq 3 o else some (.panic 131 4, []) := rfl
  rw [hfin]
  cases o with
  | nil =>
   have ha : decide (a >= 0) = false := bU (by simp only [List.length_nil] at h1; omega)
   show lp _ _ _ (n + 1) (qy xs a p l (l.length : Int)) _ = _
   rw [Nq, hd, ax]
   rw [aD (show xs.length <= 9223372036854775807 by omega), ai, ha, ax, ax]
   cases aJ xs == p <;> rfl
  | cons v o =>
   show lp _ _ _ (n + 1) (fY (v :: o) xs a p l (l.length : Int)) _ = _
   rw [Nr, hd, ax]
   rw [aD (show xs.length <= 9223372036854775807 by omega), ai]
   cases ha : decide (a >= 0) with
   | false =>
    rw [ax, ax]
    cases aJ xs == p <;> rfl
   | true =>
    have ha0 := aU ha
    rw [ai, ai, if_neg hp, aB, if_neg hp, aB]
    cases (aJ xs).tmod p == 0 with
    | false => rfl
    | true =>
     have hat : a.toNat < (v :: o).length := by omega
     have gs : fv (v :: o) a.toNat (i64.wrap ((aJ xs).tdiv p)) = some ((v :: o).set a.toNat (i64.wrap ((aJ xs).tdiv p))) := by unfold fv; rw [show Nat.blt a.toNat (v :: o).length = true from Nat.ble_eq_true_of_le hat]; rfl
     rw [Bool.not_true, ax, ai, Eh (xs := v :: o) (k := a) ha0 (by omega), aB, gs, aB]
     have j2 : ∃ v' o', (v :: o).set a.toNat (i64.wrap ((aJ xs).tdiv p)) = v' :: o' := by
      cases hq : (v :: o).set a.toNat (i64.wrap ((aJ xs).tdiv p)) with
      | nil => have := congrArg List.length hq; simp at this
      | cons v' o' => exact ⟨_, _, rfl⟩
     obtain ⟨v', o', hq⟩ := j2
     rw [hq]
     rfl
def rsR (xs : af) : List Int -> BV -> Option BV
 | [], s => some s
 | x :: l, s => match El xs s x with
  | .go s' => rsR xs l s'
  | .stop _ => none
def GH (xs : af) (s : BV) : Option (af) := bif decide (s.2.1 >= 0) then (bif (aJ xs).tmod s.2.2 == 0 then some (s.1.set s.2.1.toNat (i64.wrap ((aJ xs).tdiv s.2.2))) else none) else bif aJ xs == s.2.2 then some s.1 else none
def yl : ak := qK
def aaz (ag : bn) (xs : af) : Option (af) := (rsR xs (al ag yl []) ([], -1, 1)).bind (GH xs)
theorem Nu {xs : af} {s : BV} {x : Int} {r : Option (aq × LHp)} (h : El xs s x = .stop r) : r = some (.panic 131 4, []) := by
 have key : ∀ {o : af} {a p d : Int}, BW o a p d = .stop r -> r = some (.panic 131 4, []) := by
  intro o a p d h
  unfold BW at h
  cases h5 : decide (d >= 1) with
  | false => rw [h5] at h; cases h; rfl
  | true =>
   cases h6 : decide (d <= 65536) with
   | false => rw [h5, h6] at h; cases h; rfl
   | true =>
    cases h7 : decide (i64.wrap (p * d) <= 65536) with
    | false => rw [h5, h6, h7] at h; cases h; rfl
    | true => rw [h5, h6, h7] at h; cases h
 unfold El at h
 cases c1 : (x == -1 && decide (s.2.1 < 0)) with
 | true => rw [c1, ai] at h; exact key h
 | false =>
  rw [c1, ax] at h
  cases c2 : (x == 0 && decide ((s.1.length : Int) < Int.ofNat xs.length)) with
  | true => rw [c2, ai] at h; exact key h
  | false => rw [c2, ax] at h; exact key h
theorem Nv (xs : af) : ∀ (l : af) (s : BV), cK (.slice aa) (cg (El xs) (wj xs) l s) = (tI ((rsR xs l s).bind (GH xs))).run ah
 | [], s => by
  show cK _ (wj xs s) = (tI (GH xs s)).run ah
  unfold wj GH
  cases decide (s.2.1 >= 0) with
  | true =>
   cases (aJ xs).tmod s.2.2 == 0 with
   | true => exact jD _ _
   | false => rfl
  | false =>
   cases aJ xs == s.2.2 with
   | true => exact jD _ _
   | false => rfl
 | x :: l, s => by
  rw [cg, rsR]
  cases hq : El xs s x with
  | go s' => exact Nv xs l s'
  | stop r => rw [Nu hq]; rfl
theorem afZ (xs l : af) : hlp dP bF fF (aq × LHp) (qy xs (-1) 1 l 0) nY = lp dP bF fF fu (qy xs (-1) 1 l 0) nY := rfl
def af0 (ag : bn) (xs : af) : Bool := (aaz ag xs).isSome
def af1 (ag : bn) (xs : af) : af := (aaz ag xs).getD []
def aaA : List AV -> LHp -> Tq
 | [.d Y4 ((_, _, _, _, ag, _), _, _), .d zS xs], [] => .br (aF ag) (.br (decide (xs.length <= 2147483648)) (TW (af0 ag xs) (af1 ag xs)) .no) .no
 | _, _ => .no
theorem T0 : bg 216 (ao aaA) := by
 have h1 := bD (d := 7) (l := [(4, [1, 5, 6, 7, 13, 14, 15])]) IJ func216 call216
 refine aO fun args hs ae aH h' => ?_
 unfold aaA at h'
 split at h'
 ·rename_i op nm ins out ag _ vs _ xs
  obtain ⟨hs, h2⟩ := Tq.br_no h'
  obtain ⟨hb, h3⟩ := Tq.br_no h2
  have hb := aU hb
  refine h1.okO (.slice aa) (Eq.trans ?_ (show (tI (aaz ag xs)).run ah = some (ae, aH) from h3))
  refine Eq.trans (congrArg (cK _) (aaa op nm ins out ag vs xs)) ?_
  have hL := jE hs yl (ot := []) (by decide)
  rw [hs, ai]
  have h9 := (afZ xs (al ag yl [])).trans (aay hb hL)
  exact (congrArg (cK (.slice aa)) h9).trans (Nv xs _ _)
 ·cases h'
noncomputable def af2 : FnE := b8 [(Y4), .slice aa] (ao aaA)
theorem T3 : bg 216 af2 := bf T0
def nt (o : Option (Int × Int × Int)) : Option (aq × LHp) := o.bind fun p => bif p.2.2 == 0 then some (.ret [I p.1, I p.2.1], []) else some (.panic 131 p.2.2, [])
theorem IU (c : Bool) (a b : Option (Int × Int × Int)) : nt (bif c then a else b) = bif c then nt a else nt b := by cases c <;> rfl
theorem En {α : Type} (x : Option α) (f : α -> Option (Int × Int × Int)) : nt (x.bind f) = x.bind fun v => nt (f v) := by cases x <;> rfl
theorem Eo : nt none = none := rfl
theorem IV (x y : Int) : nt (some (x, y, 0)) = some (.ret [I x, I y], []) := rfl
theorem Nw : nt (some (0, 0, 4)) = some (.panic 131 4, []) := rfl
def uW (ag : bn) (h w kh kw : Int) : Option (Int × Int × Int) :=
  bif decide (ag.length <= 9223372036854775807 /\ (al ag kz [1, 1]).length <= 2147483648) then  bif cJ 2 1 100 (al ag kz [1, 1]) then  bif decide (ag.length <= 9223372036854775807 /\ (al ag dq [0, 0, 0, 0]).length <= 2147483648) then  bif cJ 4 0 100 (al ag dq [0, 0, 0, 0]) then  bif decide (ag.length <= 9223372036854775807 /\ (al ag kA [1, 1]).length <= 2147483648) then  bif cJ 2 1 100 (al ag kA [1, 1]) then (idx (al ag dq [0, 0, 0, 0]) 0).bind fun v6 => ((al ag dq [0, 0, 0, 0])[0]?).bind fun v7 => (idx (al ag dq [0, 0, 0, 0]) 2).bind fun v8 => ((al ag dq [0, 0, 0, 0])[2]?).bind fun v9 => (idx (al ag kA [1, 1]) 0).bind fun v10 => ((al ag kA [1, 1])[0]?).bind fun v11 => bif !decide (i64.wrap (i64.wrap (i64.wrap (i64.wrap (h + v7) + v9) - i64.wrap (v11 * i64.wrap (kh - 1))) - 1) >= 0) then some (0, 0, 4) else (idx (al ag kz [1, 1]) 0).bind fun v13 => ((al ag kz [1, 1])[0]?).bind fun C4 => (if C4 = 0 then none else some (i64.wrap ((i64.wrap (i64.wrap (i64.wrap (i64.wrap (h + v7) + v9) - i64.wrap (v11 * i64.wrap (kh - 1))) - 1)).tdiv C4))).bind fun v15 => (idx (al ag dq [0, 0, 0, 0]) 1).bind fun v16 => ((al ag dq [0, 0, 0, 0])[1]?).bind fun va => (idx (al ag dq [0, 0, 0, 0]) 3).bind fun v18 => ((al ag dq [0, 0, 0, 0])[3]?).bind fun v19 => (idx (al ag kA [1, 1]) 1).bind fun v20 => ((al ag kA [1, 1])[1]?).bind fun v21 => bif !decide (i64.wrap (i64.wrap (i64.wrap (i64.wrap (w + va) + v19) - i64.wrap (v21 * i64.wrap (kw - 1))) - 1) >= 0) then some (0, 0, 4) else (idx (al ag kz [1, 1]) 1).bind fun v23 => ((al ag kz [1, 1])[1]?).bind fun v24 => (if v24 = 0 then none else some (i64.wrap ((i64.wrap (i64.wrap (i64.wrap (i64.wrap (w + va) + v19) - i64.wrap (v21 * i64.wrap (kw - 1))) - 1)).tdiv v24))).bind fun v25 => some ((i64.wrap (v15 + 1)), (i64.wrap (v25 + 1)), 0) else some (0, 0, 4) else none else some (0, 0, 4) else none else some (0, 0, 4) else none
theorem T4 (op nm : ak) (ins : List (ak)) (out : ak) (ag : bn) (vs : b5) (a b h w kh kw : Int) : aC gWd f214 5 [] [BX (op, nm, ins, out, ag, ()) vs, .d (.slice aa) [a, b, h, w], .d (.slice aa) [kh, kw]] [] ah = nt (uW ag h w kh kw) := by
 rw [aaB]
 unfold uW
 simp only [IU, En, Eo, IV, Nw]
def l9 (hs : LHp) (o : Option (Int × Int × Int)) : Option (aq × LHp) := o.bind fun p => bif p.2.2 == 0 then some (.ret [I p.1, I p.2.1], hs) else some (.panic 131 p.2.2, hs)
theorem IW (hs : LHp) (c : Bool) (a b : Option (Int × Int × Int)) : l9 hs (bif c then a else b) = bif c then l9 hs a else l9 hs b := by cases c <;> rfl
theorem Ep (hs : LHp) {α : Type} (x : Option α) (f : α -> Option (Int × Int × Int)) : l9 hs (x.bind f) = x.bind fun v => l9 hs (f v) := by cases x <;> rfl
theorem Er (hs : LHp) : l9 hs none = none := rfl
theorem IX (hs : LHp) (x y : Int) : l9 hs (some (x, y, 0)) = some (.ret [I x, I y], hs) := rfl
theorem Ny (hs : LHp) : l9 hs (some (0, 0, 4)) = some (.panic 131 4, hs) := rfl
def T5 (ks : af) : LHp := [(0, .arr 3 aa 0 false ks)]
theorem T6 (op nm : ak) (ins : List (ak)) (out : ak) (ag : bn) (vs : b5) (a b h w kh kw : Int) : aC gWd f214 5 [] [BX (op, nm, ins, out, ag, ()) vs, .d (.slice aa) [a, b, h, w], .os 0 0] (T5 [kh, kw]) ah = l9 (T5 [kh, kw]) (uW ag h w kh kw) := by
 refine (aaC op nm ins out ag vs a b h w kh kw).trans ?_
 unfold uW
 simp only [IW, Ep, Er, IX, Ny]
 rfl
def nR (ag : bn) (xs ks : af) : Bool := (uW ag (xs.getD 2 0) (xs.getD 3 0) (ks.getD 0 0) (ks.getD 1 0)).isSome
def T7 (ag : bn) (xs ks : af) : Int × Int × Int := (uW ag (xs.getD 2 0) (xs.getD 3 0) (ks.getD 0 0) (ks.getD 1 0)).getD (0, 0, 0)
def gR (ag : bn) (xs ks : af) : Int := (T7 ag xs ks).2.2
def qU (ag : bn) (xs ks : af) : Int := (T7 ag xs ks).1
def qV (ag : bn) (xs ks : af) : Int := (T7 ag xs ks).2.1
theorem GI {hs : LHp} {ag : bn} {xs ks : af} : l9 hs (uW ag (xs.getD 2 0) (xs.getD 3 0) (ks.getD 0 0) (ks.getD 1 0)) = bif nR ag xs ks then (bif gR ag xs ks == 0 then some (.ret [I (qU ag xs ks), I (qV ag xs ks)], hs) else some (.panic 131 (gR ag xs ks), hs)) else none := by
 unfold nR gR qU qV T7
 cases uW ag (xs.getD 2 0) (xs.getD 3 0) (ks.getD 0 0) (ks.getD 1 0) <;> rfl
theorem T8 (o : Option (Int × Int × Int)) : nt o = l9 [] o := rfl
theorem Wr {xs : af} (h : xs.length = 4) : xs = [xs.getD 0 0, xs.getD 1 0, xs.getD 2 0, xs.getD 3 0] := by
 match xs, h with
 | [a, b, c, d], _ => rfl
theorem Ws {xs : af} (h : xs.length = 2) : xs = [xs.getD 0 0, xs.getD 1 0] := by
 match xs, h with
 | [a, b], _ => rfl
def Nz : List AV -> LHp -> Tq
 | [.d Y4 ((_, _, _, _, ag, _), _, _), .d zS xs, .d zS ks], [] => .br (decide (xs.length = 4 /\ ks.length = 2)) (.br (nR ag xs ks) (.br (gR ag xs ks == 0) (.leaf (.ret [I (qU ag xs ks), I (qV ag xs ks)]) []) (.leaf (.panic 131 (gR ag xs ks)) [])) .no) .no
 | _, _ => .no
def NA : List AV -> LHp -> Tq
 | [.d Y4 ((_, _, _, _, ag, _), _, _), .d zS xs, .os 0 0], [(0, .arr 3 zI 0 false ks)] => .br (decide (xs.length = 4 /\ ks.length = 2)) (.br (nR ag xs ks) (.br (gR ag xs ks == 0) (.leaf (.ret [I (qU ag xs ks), I (qV ag xs ks)]) (T5 ks)) (.leaf (.panic 131 (gR ag xs ks)) (T5 ks))) .no) .no
 | _, _ => .no
theorem NB : bg 214 (ao Nz) := by
 have h1 := bD (d := 5) (l := []) BY func214 call214
 refine aO fun args hs ae aH h' => ?_
 unfold Nz at h'
 split at h'
 ·rename_i op nm ins out ag _ vs _ xs ks
  obtain ⟨hb, h2⟩ := Tq.br_no h'
  obtain ⟨hx, hk⟩ := aU hb
  refine h1.okC ?_
  have key := (T4 op nm ins out ag vs (xs.getD 0 0) (xs.getD 1 0) (xs.getD 2 0) (xs.getD 3 0) (ks.getD 0 0) (ks.getD 1 0)).trans ((T8 _).trans GI)
  rw [← Wr hx, ← Ws hk] at key
  exact key.trans h2
 ·cases h'
theorem NC : bg 214 (ao NA) := by
 have h1 := bD (d := 5) (l := []) BY func214 call214
 refine aO fun args hs ae aH h' => ?_
 unfold NA at h'
 split at h'
 ·rename_i op nm ins out ag _ vs _ xs ks
  obtain ⟨hb, h2⟩ := Tq.br_no h'
  obtain ⟨hx, hk⟩ := aU hb
  refine h1.okC ?_
  have key := (T6 op nm ins out ag vs (xs.getD 0 0) (xs.getD 1 0) (xs.getD 2 0) (xs.getD 3 0) (ks.getD 0 0) (ks.getD 1 0)).trans GI
  rw [← Wr hx, ← Ws hk] at key
  exact key.trans h2
 ·cases h'
def aaD (args : List AV) (hs : LHp) : Tq := orT (Nz args hs) (NA args hs)
theorem GJ : bg 214 (ao aaD) := ky NB NC
noncomputable def Wt : Code := bd f77
noncomputable def IY : Code := cL (cL (cR (cL (cR (cR Wt)))))
noncomputable def kb : Cfg := ⟨26, 5, 0, [(4, [0, 1, 12, 13])], true⟩
def wo (xs ys : af) (i : Int) : LSt := ⟨aw 5 [(0, .d (.slice aa) xs), (1, .d (.slice aa) ys), (12, I (Int.ofNat xs.length)), (13, I i)], [], 0⟩
noncomputable def KEq : AEx -> LSt -> Option (aq × LHp) := (aQ 0 (aX uw kb [4] (hlp uw kb) (cR (cR (cR Wt))) (aZ prog 0 f77.results.toList ah)))
theorem aaE (xs ys : af) : aC uw f77 5 [(4, [0, 1, 12, 13])] [.d (.slice aa) xs, .d (.slice aa) ys] [] ah = bif Int.ofNat xs.length != Int.ofNat ys.length then az [B false] else (hlp uw kb) IY _ (wo xs ys 0) KEq := (bq [4] kb rfl).trans (by obtain ⟨hl, h⟩ := bc uw kb; rw [h]; kernel_rfl)
theorem ND (xs ys : af) (i : Int) (n : Nat) {R : Type} (k : AEx -> LSt -> Option R) : lp uw kb IY (n + 1) (wo xs ys i) k = bif decide (i < Int.ofNat xs.length) then (idx xs i).bind fun v1 => (idx ys i).bind fun v2 => bif v1 != v2 then k AEx.ret { fr := aw 5 [(0, AV.d (aa).slice xs), (1, AV.d (aa).slice ys), (4, B false), (5, I i), (12, I (Int.ofNat xs.length)), (13, I i), (14, B true), (15, I i), (16, AV.d (aa).slice xs), (17, I i), (18, AV.ip (aa) v1), (19, I v1), (20, AV.d (aa).slice ys), (21, I i), (22, AV.ip (aa) v2), (23, I v2), (24, B true)], hp := [], nx := 0 } else lp uw kb IY n (wo xs ys (i64.wrap (i + 1))) k else k (AEx.exit 0) { fr := aw 5 [(0, AV.d (aa).slice xs), (1, AV.d (aa).slice ys), (12, I (Int.ofNat xs.length)), (13, I i), (14, B false)], hp := [], nx := 0 } := by kernel_rfl
theorem af5 (xs ys : af) (i : Int) : KEq (.exit 0) ⟨aw 5 [(0, .d (.slice aa) xs), (1, .d (.slice aa) ys), (12, I (Int.ofNat xs.length)), (13, I i), (14, B false)], [], 0⟩ = az [B true] := by kernel_rfl
theorem aaF {xs ys : af} (hxy : xs.length = ys.length) (hl : xs.length <= maxLen) : ∀ (r j nn : Nat), j + r = xs.length -> r < nn ->
  lp uw kb IY nn (wo xs ys ((j : Nat) : Int)) KEq = some (.ret [B (xs.drop j == ys.drop j)], []) := by
 have hm : maxLen = 9223372036854775807 := by decide
 intro r
 induction r with
 | zero =>
  intro j nn hj hn
  obtain ⟨nn, rfl⟩ : ∃ m', nn = m' + 1 := ⟨nn - 1, by omega⟩
  rw [ND, bU (show ¬ (((j : Nat) : Int) < Int.ofNat xs.length) by simp only [aK]; omega), ax, List.drop_eq_nil_of_le (by omega), List.drop_eq_nil_of_le (by omega)]
  exact af5 xs ys _
 | succ r ih =>
  intro j nn hj hn
  obtain ⟨nn, rfl⟩ : ∃ m', nn = m' + 1 := ⟨nn - 1, by omega⟩
  have key := ih (j + 1) nn (by omega) (by omega)
  have h1 : j < xs.length := by omega
  have h2 : j < ys.length := by omega
  have g1 : idx xs ((j : Nat) : Int) = some (xs[j]) := by unfold idx; rw [if_pos (by omega), Int.toNat_natCast, List.getElem?_eq_getElem h1]
  have g2 : idx ys ((j : Nat) : Int) = some (ys[j]) := by unfold idx; rw [if_pos (by omega), Int.toNat_natCast, List.getElem?_eq_getElem h2]
  have e1 : xs.drop j = xs[j] :: xs.drop (j + 1) := List.drop_eq_getElem_cons h1
  have e2 : ys.drop j = ys[j] :: ys.drop (j + 1) := List.drop_eq_getElem_cons h2
  have w1 : i64.wrap (((j : Nat) : Int) + 1) = ((j + 1 : Nat) : Int) := by rw [aI (by omega) (by omega)]; omega
  generalize xs[j] = a at *
  generalize ys[j] = b at *
  rw [ND, aD (show ((j : Nat) : Int) < Int.ofNat xs.length by simp only [aK]; omega), ai, g1, aB, g2, aB, w1, e1, e2]
  cases hb : a != b with
  | true =>
   have : (a :: xs.drop (j + 1) == b :: ys.drop (j + 1)) = false := by
    rw [beq_eq_false_iff_ne]
    intro h
    injection h with h _
    rw [h, bne_self_eq_false] at hb
    cases hb
   rw [this]
   show _ = _
   kernel_rfl
  | false =>
   have hab : a = b := by simpa using hb
   have : (a :: xs.drop (j + 1) == b :: ys.drop (j + 1)) = (xs.drop (j + 1) == ys.drop (j + 1)) := by rw [hab]; simp
   rw [this]
   exact key
theorem af6 (xs ys : af) : hlp uw kb IY (aq × LHp) (wo xs ys 0) KEq = lp uw kb IY fu (wo xs ys 0) KEq := rfl
theorem T9 {xs ys : af} (hl : xs.length <= maxLen) : aC uw f77 5 [(4, [0, 1, 12, 13])] [.d (.slice aa) xs, .d (.slice aa) ys] [] ah = some (.ret [B (xs == ys)], []) := by
 rw [aaE]
 by_cases h : xs.length = ys.length
 ·rw [show (Int.ofNat xs.length != Int.ofNat ys.length) = false by rw [h]; exact bne_self_eq_false _, ax]
  have hm : maxLen = 9223372036854775807 := by decide
  have key := aaF h hl xs.length 0 fu (by omega) (by unfold fu; omega)
  rw [List.drop_zero, List.drop_zero] at key
  exact (af6 xs ys).trans key
 ·rw [show (Int.ofNat xs.length != Int.ofNat ys.length) = true by rw [bne_iff_ne]; simp only [aK]; omega, ai]
  have : (xs == ys) = false := by
   rw [beq_eq_false_iff_ne]
   intro e
   exact h (by rw [e])
  rw [this]
def NF : List AV -> LHp -> Tq
 | [.d zS xs, .d zS ys], [] => .br (decide (xs.length <= maxLen)) (.leaf (.ret [B (xs == ys)]) []) .no
 | _, _ => .no
theorem ym : bg 77 (ao NF) := by
 refine bW fw bO func77 call77 (depth := 5) (live := [(4, [0, 1, 12, 13])]) (by decide +kernel) rfl fun args hs p h => ?_
 unfold NF at h
 split at h
 ·obtain ⟨hl, h⟩ := Tq.br_no h
  cases h
  have hl := aU hl
  exact T9 hl
 ·cases h
noncomputable def Wu : Code := bd f154
noncomputable def oY : Code := cL (cL (cR (cL (cR (cR (cR (cR Wu)))))))
noncomputable def dW : Cfg := ⟨51, 6, 0, [(5, [1, 5, 6, 7, 26, 27, 28])], true⟩
noncomputable def wq : Env := ((Is.add 214 (ao aaD)).add 25 (ao Ye)).add 215 (ao nuF)
theorem NG : wq.Good := ((dM.add GJ).add FZ).add L8
def IZ (xs ks ps : af) (H W i : Int) : LSt := { fr := aw 6 [(1, .d (.slice aa) xs), (5, .os 0 0), (6, I H), (7, I W), (26, .os 1 0), (27, I (Int.ofNat ps.length)), (28, I i)], hp := [(0, .arr 3 aa 0 false ks), (1, .arr 2 aa 0 false ps)], nx := 2 }
noncomputable def J4 : AEx -> LSt -> Option (aq × LHp) := (aQ 0 (aX wq dW [5] (hlp wq dW) (cR (cR (cR (cR (cR Wu))))) (aZ prog 0 f154.results.toList ah)))
theorem aaG (op nm : ak) (ins : List (ak)) (out : ak) (ag : bn) (vs : b5) (xs : af) : aC wq f154 6 [(5, [1, 5, 6, 7, 26, 27, 28])] [BX (op, nm, ins, out, ag, ()) vs, .d (.slice aa) xs] [] ah = bif decide (ag.length <= 9223372036854775807 /\ (al ag iv []).length <= 2147483648) then bif cJ 2 1 100 (al ag iv []) then bif !Int.ofNat xs.length == 4 then aV else bif decide (xs.length = 4 /\ (al ag iv []).length = 2) then bif nR ag xs (al ag iv []) then bif gR ag xs (al ag iv []) == 0 then bif decide (ag.length <= 9223372036854775807) then bif (List.find? (fun a => a.fst == dq && a.snd.fst == 7) ag).isNone then (hlp wq dW) oY _ { fr := aw 6 [(1, AV.d (aa).slice xs), (5, AV.os 0 0), (6, I (qU ag xs (al ag iv []))), (7, I (qV ag xs (al ag iv []))), (26, AV.nils), (27, I 0), (28, I 0)], hp := [(0, aj.arr 3 (aa) 0 false (al ag iv []))], nx := 1 } J4 else bif decide (al ag dq [] = []) then (hlp wq dW) oY _ { fr := aw 6 [(1, AV.d (aa).slice xs), (5, AV.os 0 0), (6, I (qU ag xs (al ag iv []))), (7, I (qV ag xs (al ag iv []))), (26, AV.emp), (27, I 0), (28, I 0)], hp := [(0, aj.arr 3 (aa) 0 false (al ag iv []))], nx := 1 } J4 else bif decide ((al ag dq []).length <= 2147483648) then (hlp wq dW) oY _ (IZ xs (al ag iv []) (al ag dq []) (qU ag xs (al ag iv [])) (qV ag xs (al ag iv [])) 0) J4 else none else none else some (aq.panic 131 (gR ag xs (al ag iv [])), []) else none else none else aV else none := (bq [5] dW rfl).trans (by obtain ⟨hl, h⟩ := bc wq dW; rw [h]; kernel_rfl)
def I0 (xs ks : af) (H W : Int) (q : AV) : LSt := { fr := aw 6 [(1, .d (.slice aa) xs), (5, .os 0 0), (6, I H), (7, I W), (26, q), (27, I 0), (28, I 0)], hp := [(0, .arr 3 aa 0 false ks)], nx := 1 }
theorem NH (xs ks ps : af) (H W i : Int) (n : Nat) {R : Type} (k : AEx -> LSt -> Option R) : lp wq dW oY (n + 1) (IZ xs ks ps H W i) k = bif decide (i < Int.ofNat ps.length) then (idx ps i).bind fun v1 => (ps[i.toNat]?).bind fun v2 => (idx ks (i.tmod 2)).bind fun v3 => (ks[(i.tmod 2).toNat]?).bind fun v4 => bif !decide (v2 < v4) then k (AEx.panic 131 4) { fr := aw 6 [(1, AV.d (aa).slice xs), (5, AV.os 0 0), (6, I H), (7, I W), (8, I i), (9, I v2), (26, AV.os 1 0), (27, I (Int.ofNat ps.length)), (28, I i), (29, B true), (30, I i), (31, AV.oe 1 0 i.toNat), (32, I v2), (33, I v2), (34, AV.os 0 0), (35, I i), (36, I (i.tmod 2)), (37, AV.oe 0 0 (i.tmod 2).toNat), (38, I v4), (39, B (decide (v2 < v4)))], hp := [(0, aj.arr 3 (aa) 0 false ks), (1, aj.arr 2 (aa) 0 false ps)], nx := 2 } else lp wq dW oY n (IZ xs ks ps H W (i64.wrap (i + 1))) k else k (AEx.exit 0) { fr := aw 6 [(1, AV.d (aa).slice xs), (5, AV.os 0 0), (6, I H), (7, I W), (26, AV.os 1 0), (27, I (Int.ofNat ps.length)), (28, I i), (29, B false)], hp := [(0, aj.arr 3 (aa) 0 false ks), (1, aj.arr 2 (aa) 0 false ps)], nx := 2 } := by kernel_rfl
theorem aaH (xs ks : af) (H W : Int) (n : Nat) {R : Type} (k : AEx -> LSt -> Option R) : lp wq dW oY (n + 1) (I0 xs ks H W .nils) k = k (AEx.exit 0) { fr := aw 6 [(1, AV.d (aa).slice xs), (5, AV.os 0 0), (6, I H), (7, I W), (26, AV.nils), (27, I 0), (28, I 0), (29, B false)], hp := [(0, aj.arr 3 (aa) 0 false ks)], nx := 1 } := by kernel_rfl
theorem aaI (xs ks : af) (H W : Int) (n : Nat) {R : Type} (k : AEx -> LSt -> Option R) : lp wq dW oY (n + 1) (I0 xs ks H W .emp) k = k (AEx.exit 0) { fr := aw 6 [(1, AV.d (aa).slice xs), (5, AV.os 0 0), (6, I H), (7, I W), (26, AV.emp), (27, I 0), (28, I 0), (29, B false)], hp := [(0, aj.arr 3 (aa) 0 false ks)], nx := 1 } := by kernel_rfl
theorem aaJ (xs ks ps : af) (H W i : Int) : J4 (.exit 0) { fr := aw 6 [(1, .d (.slice aa) xs), (5, .os 0 0), (6, I H), (7, I W), (26, .os 1 0), (27, I (Int.ofNat ps.length)), (28, I i), (29, B false)], hp := [(0, .arr 3 aa 0 false ks), (1, .arr 2 aa 0 false ps)], nx := 2 } = (idx xs 0).bind fun v0 => (idx xs 1).bind fun v1 => some (aq.ret [AV.os 0 0], [(0, aj.arr 3 (aa) 0 false [v0, v1, H, W])]) := by kernel_rfl
theorem NI (xs ks : af) (H W : Int) (q : AV) : J4 (.exit 0) { fr := aw 6 [(1, .d (.slice aa) xs), (5, .os 0 0), (6, I H), (7, I W), (26, q), (27, I 0), (28, I 0), (29, B false)], hp := [(0, .arr 3 aa 0 false ks)], nx := 1 } = (idx xs 0).bind fun v0 => (idx xs 1).bind fun v1 => some (aq.ret [AV.os 0 0], [(0, aj.arr 3 (aa) 0 false [v0, v1, H, W])]) := by kernel_rfl
noncomputable def gIv : Env := ((Is.add 214 (ao aaD)).add 59 (ao qO)).add 77 (ao NF)
theorem NJ : gIv.Good := ((dM.add GJ).add ig).add ym
noncomputable def yn (ag : bn) (xs : af) (gD : Y3.den) : Option (aq × LHp) := (if (0 : Int) <= 2 /\ 2 <= Int.ofNat (List.length gD.2.2.1) /\ Int.ofNat (List.length gD.2.2.1) <= Int.ofNat (List.length gD.2.2.1) then some (List.drop 2 (List.take (Int.ofNat (List.length gD.2.2.1)).toNat gD.2.2.1)) else none).bind fun u9 => bif decide (xs.length = 4 /\ u9.length = 2) then bif nR ag xs u9 then bif gR ag xs u9 == 0 then (idx xs 0).bind fun zb1 => (idx gD.2.2.1 0).bind fun zb2 => some (aq.ret [AV.os 0 0], [(0, aj.arr 3 (aa) 0 false [zb1, zb2, qU ag xs u9, qV ag xs u9])]) else some (aq.panic 131 (gR ag xs u9), []) else none else none
theorem aaK (op nm : ak) (ins : List (ak)) (out : ak) (ag : bn) (vs : b5) (xs : af) : aC gIv f153 7 [] [BX (op, nm, ins, out, ag, ()) vs, .d (.slice aa) xs] [] ah = (idx vs 1).bind fun v0 => bif decide (ag.length <= 9223372036854775807) then bif Int.ofNat xs.length == 4 then bif Int.ofNat (List.length v0.2.2.1) == 4 then bif decide (aT ag lZ 1 >= 1) then bif !decide (aT ag lZ 1 <= 65536) then aV else (idx xs 1).bind fun v6 => (if aT ag lZ 1 = 0 then none else some (Int.tmod v6 (aT ag lZ 1))).bind fun v7 => bif v7 == 0 then (idx v0.2.2.1 0).bind fun v9 => (if aT ag lZ 1 = 0 then none else some (Int.tmod v9 (aT ag lZ 1))).bind fun v10 => bif v10 == 0 then (idx v0.2.2.1 1).bind fun v12 => (idx xs 1).bind fun v13 => (if aT ag lZ 1 = 0 then none else some (i64.wrap (Int.tdiv v13 (aT ag lZ 1)))).bind fun C4 => bif !v12 == C4 then aV else bif decide (Int.ofNat vs.length < 3) then yn ag xs v0 else (idx vs 2).bind fun va => (if (0 : Int) <= 0 /\ (0 : Int) <= 1 /\ 1 <= Int.ofNat (List.length v0.2.2.1) then some (List.drop 0 (List.take 1 v0.2.2.1)) else none).bind fun v18 => bif decide (List.length va.2.2.1 <= 9223372036854775807) then bif !va.2.2.1 == v18 then aV else yn ag xs v0 else none else aV else aV else aV else aV else aV else none := by kernel_rfl
def uX (o : Option (af ⊕ Int)) : Option (aq × LHp) := o.bind fun p => match p with
 | .inl l => some (.ret [.os 0 0], [(0, .arr 3 aa 0 false l)])
 | .inr e => some (.panic 131 e, [])
theorem NK (c : Bool) (a b : Option (af ⊕ Int)) : uX (bif c then a else b) = bif c then uX a else uX b := by cases c <;> rfl
theorem I1 {α : Type} (x : Option α) (f : α -> Option (af ⊕ Int)) : uX (x.bind f) = x.bind fun v => uX (f v) := by cases x <;> rfl
theorem I2 : uX none = none := rfl
theorem NL (l : af) : uX (some (.inl l)) = some (.ret [.os 0 0], [(0, .arr 3 aa 0 false l)]) := rfl
theorem NM (e : Int) : uX (some (.inr e)) = some (.panic 131 e, []) := rfl
def af7 (o : Option (af ⊕ Int)) : Bool := o.isSome
def af8 (o : Option (af ⊕ Int)) : Bool := match o with | some (.inl _) => true | _ => false
def af9 (o : Option (af ⊕ Int)) : af := match o with | some (.inl l) => l | _ => []
def aga (o : Option (af ⊕ Int)) : Int := match o with | some (.inr e) => e | _ => 0
theorem aaL (o : Option (af ⊕ Int)) : uX o = bif af7 o then (bif af8 o then some (.ret [.os 0 0], [(0, .arr 3 aa 0 false (af9 o))]) else some (.panic 131 (aga o), [])) else none := by
 rcases o with _ | l | e <;> rfl
def yo (ag : bn) (vs : b5) (xs : af) : Option (af ⊕ Int) :=
  (idx vs 1).bind fun v0 => bif decide (ag.length <= 9223372036854775807) then  bif Int.ofNat xs.length == 4 then  bif Int.ofNat (List.length v0.2.2.1) == 4 then  bif decide (aT ag lZ 1 >= 1) then  bif !decide (aT ag lZ 1 <= 65536) then some (.inr 4) else (idx xs 1).bind fun v6 => (if aT ag lZ 1 = 0 then none else some (Int.tmod v6 (aT ag lZ 1))).bind fun v7 => bif v7 == 0 then (idx v0.2.2.1 0).bind fun v9 => (if aT ag lZ 1 = 0 then none else some (Int.tmod v9 (aT ag lZ 1))).bind fun v10 => bif v10 == 0 then (idx v0.2.2.1 1).bind fun v12 => (idx xs 1).bind fun v13 => (if aT ag lZ 1 = 0 then none else some (i64.wrap (Int.tdiv v13 (aT ag lZ 1)))).bind fun C4 => bif !v12 == C4 then some (.inr 4) else  bif decide (Int.ofNat vs.length < 3) then (if (0 : Int) <= 2 /\ 2 <= Int.ofNat (List.length v0.2.2.1) /\ Int.ofNat (List.length v0.2.2.1) <= Int.ofNat (List.length v0.2.2.1) then some (List.drop 2 (List.take (Int.ofNat (List.length v0.2.2.1)).toNat v0.2.2.1)) else none).bind fun va => bif decide (xs.length = 4 /\ va.length = 2) then  bif nR ag xs va then  bif gR ag xs va == 0 then (idx xs 0).bind fun v21 => (idx v0.2.2.1 0).bind fun v22 => some (.inl [v21, v22, qU ag xs va, qV ag xs va]) else some (.inr (gR ag xs va)) else none else none else (idx vs 2).bind fun va => (if (0 : Int) <= 0 /\ (0 : Int) <= 1 /\ 1 <= Int.ofNat (List.length v0.2.2.1) then some (List.drop 0 (List.take 1 v0.2.2.1)) else none).bind fun v18 => bif decide (List.length va.2.2.1 <= 9223372036854775807) then  bif !va.2.2.1 == v18 then some (.inr 4) else (if (0 : Int) <= 2 /\ 2 <= Int.ofNat (List.length v0.2.2.1) /\ Int.ofNat (List.length v0.2.2.1) <= Int.ofNat (List.length v0.2.2.1) then some (List.drop 2 (List.take (Int.ofNat (List.length v0.2.2.1)).toNat v0.2.2.1)) else none).bind fun v21 => bif decide (xs.length = 4 /\ v21.length = 2) then  bif nR ag xs v21 then  bif gR ag xs v21 == 0 then (idx xs 0).bind fun v25 => (idx v0.2.2.1 0).bind fun v26 => some (.inl [v25, v26, qU ag xs v21, qV ag xs v21]) else some (.inr (gR ag xs v21)) else none else none else none else some (.inr 4) else some (.inr 4) else some (.inr 4) else some (.inr 4) else some (.inr 4) else none
theorem Ua (op nm : ak) (ins : List (ak)) (out : ak) (ag : bn) (vs : b5) (xs : af) : aC gIv f153 7 [] [BX (op, nm, ins, out, ag, ()) vs, .d (.slice aa) xs] [] ah = uX (yo ag vs xs) := by
 rw [aaK]; simp only [yn]
 unfold yo
 simp only [NK, I1, I2, NL, NM]
def I3 (ag : bn) (vs : b5) (xs : af) : Bool := af7 (yo ag vs xs)
def I4 (ag : bn) (vs : b5) (xs : af) : Bool := af8 (yo ag vs xs)
def agb (ag : bn) (vs : b5) (xs : af) : af := af9 (yo ag vs xs)
def I5 (ag : bn) (vs : b5) (xs : af) : Int := aga (yo ag vs xs)
def aaM : List AV -> LHp -> Tq
 | [.d Y4 ((_, _, _, _, ag, _), vs, _), .d zS xs], [] => .br (I3 ag vs xs) (.br (I4 ag vs xs) (.leaf (.ret [.os 0 0]) [(0, .arr 3 aa 0 false (agb ag vs xs))]) (.leaf (.panic 131 (I5 ag vs xs)) [])) .no
 | _, _ => .no
theorem Ub : bg 153 (ao aaM) := by
 have h1 := bD (d := 7) (l := []) NJ func153 call153
 refine aO fun args hs ae aH h' => ?_
 unfold aaM at h'
 split at h'
 ·exact h1.okC (((Ua _ _ _ _ _ _ _).trans (aaL _)).trans h')
 ·cases h'
noncomputable def NQ : Env := ((((uw.add 146 (ao TD)).add 111 (ao M6)).add 147 (ao Z7)).add 59 (ao qO)).add 145 (ao Ug)
theorem I6 : NQ.Good := ((((fw.add Gx).add M7).add TJ).add ig).add GM
noncomputable def cM (op : ak) (vs : b5) (gD : Y3.den) : Option (aq × LHp) := bif (IE op gD.2.1).2 != 1 then bif decide (vs.length <= 9223372036854775807) then bif !tG vs gD.2.1 then aV else az [I gD.2.1] else none else aV
noncomputable def cr (op : ak) (gD : Y3.den) : Option (aq × LHp) := bif !(k9 op gD.2.1).2 == 0 then aV else az [I gD.2.1]
noncomputable def yq (op : ak) (vs : b5) (gD : Y3.den) : Option (aq × LHp) := bif op == uQ then bif decide (vs.length <= 9223372036854775807) then bif !tG vs gD.2.1 then aV else az [I gD.2.1] else none else bif op == oG then (idx vs 1).bind fun u9 => bif u9.2.1 == 6 then az [I gD.2.1] else (idx vs 1).bind fun zb1 => bif !zb1.2.1 == 7 then aV else az [I gD.2.1] else bif op == xK then az [I gD.2.1] else bif op == xL then az [I gD.2.1] else bif op == xM then az [I gD.2.1] else bif op == uR then az [I gD.2.1] else bif op == xN then az [I gD.2.1] else bif op == xO then az [I gD.2.1] else bif op == AQ then az [I gD.2.1] else bif decide (vs.length <= 9223372036854775807) then bif !tG vs 1 then aV else az [I gD.2.1] else none
noncomputable def ld (op : ak) (vs : b5) (gD : Y3.den) : Option (aq × LHp) := bif (IE op gD.2.1).2 == 0 then bif decide (vs.length <= 9223372036854775807) then bif !tG vs gD.2.1 then aV else az [I 9] else none else aV
noncomputable def yr (ag : bn) : Option (aq × LHp) := bif decide (ag.length <= 9223372036854775807) then bif !bS (aT ag [116, 111] 0) 0 then some (aq.panic 131 5, []) else az [I (aT ag [116, 111] 0)] else none
noncomputable def yu (vs : b5) (gD : Y3.den) : Option (aq × LHp) := bif gD.2.1 == 9 then (idx vs 1).bind fun u9 => (idx vs 2).bind fun zb1 => bif !u9.2.1 == zb1.2.1 then aV else (idx vs 1).bind fun zb2 => az [I zb2.2.1] else aV
noncomputable def yv (gD : Y3.den) : Option (aq × LHp) := bif gD.2.1 == 7 then az [I gD.2.1] else bif !gD.2.1 == 1 then aV else az [I gD.2.1]
theorem Es (op nm : ak) (ins : List (ak)) (out : ak) (ag : bn) (vs : b5) : aC NQ f104 8 [] [fD (op, nm, ins, out, ag, ()) vs] [] ah = bif op == nO then bif decide (ag.length <= 9223372036854775807) then (List.find? fM ag).bind fun v2 => az [I v2.2.2.2.2.2.1.1] else none else (idx vs 0).bind fun v1 => bif v1.2.1 == 6 then bif op == QT then cr op v1 else bif op == K5 then cr op v1 else bif op == Ii then cr op v1 else bif op == [78, 111, 116] then cr op v1 else bif op == QO then cr op v1 else bif op == QP then cr op v1 else bif op == QQ then cr op v1 else bif op == [69, 120, 112] then cr op v1 else bif op == QR then cr op v1 else bif op == QS then cr op v1 else bif op == uP then ld op vs v1 else bif op == xH then ld op vs v1 else bif op == xI then ld op vs v1 else bif op == QH then cM op vs v1 else bif op == QI then cM op vs v1 else bif op == QJ then cM op vs v1 else bif op == QK then cM op vs v1 else bif op == QL then cM op vs v1 else bif op == QM then cM op vs v1 else bif op == V7 then cM op vs v1 else bif op == [79, 114] then cM op vs v1 else bif op == V8 then cM op vs v1 else bif op == qJ then yu vs v1 else bif op == DU then yr ag else bif op == DV then az [I v1.2.1] else bif op == DW then az [I v1.2.1] else bif op == xJ then az [I 7] else yq op vs v1 else bif op == QT then cr op v1 else bif op == K5 then cr op v1 else bif op == Ii then cr op v1 else bif op == [78, 111, 116] then cr op v1 else bif op == QO then cr op v1 else bif op == QP then cr op v1 else bif op == QQ then cr op v1 else bif op == [69, 120, 112] then cr op v1 else bif op == QR then cr op v1 else bif op == QS then cr op v1 else bif op == uP then ld op vs v1 else bif op == xH then ld op vs v1 else bif op == xI then ld op vs v1 else bif op == QH then cM op vs v1 else bif op == QI then cM op vs v1 else bif op == QJ then cM op vs v1 else bif op == QK then cM op vs v1 else bif op == QL then cM op vs v1 else bif op == QM then cM op vs v1 else bif op == V7 then cM op vs v1 else bif op == [79, 114] then cM op vs v1 else bif op == V8 then cM op vs v1 else bif op == qJ then yu vs v1 else bif op == DU then yr ag else bif op == DV then yv v1 else bif op == DW then yv v1 else bif op == xJ then bif v1.2.1 == 7 then az [I 7] else bif !v1.2.1 == 1 then aV else az [I 7] else yq op vs v1 := by kernel_rfl
noncomputable def Et (r : Option (aq × LHp)) : Option (Int × Int) := match r with
 | some (.ret [.d (.int .i64) a], []) => some (a, 0)
 | some (.panic t c, []) => bif Nat.beq t 131 && !(c == 0) then some (0, c) else none
 | _ => none
theorem Uh (c : Bool) (a b : Option (aq × LHp)) : Et (bif c then a else b) = bif c then Et a else Et b := by cases c <;> rfl
theorem NR {α : Type} (x : Option α) (f : α -> Option (aq × LHp)) : Et (x.bind f) = x.bind fun v => Et (f v) := by cases x <;> rfl
theorem NS : Et none = none := rfl
theorem Ui (a : Int) : Et (some (.ret [I a], [])) = some (a, 0) := rfl
theorem aaT : Et (some (.panic 131 4, [])) = some (0, 4) := rfl
theorem aaU : Et (some (.panic 131 5, [])) = some (0, 5) := rfl
noncomputable def Uj (op : ak) (ag : bn) (vs : b5) : Option (Int × Int) := Et (aC NQ f104 8 [] [fD (op, [], [], [], ag, ()) vs] [] ah)
theorem Uk (op nm : ak) (ins : List (ak)) (out : ak) (ag : bn) (vs : b5) : aC NQ f104 8 [] [fD (op, nm, ins, out, ag, ()) vs] [] ah = aC NQ f104 8 [] [fD (op, [], [], [], ag, ()) vs] [] ah := (Es op nm ins out ag vs).trans (Es op [] [] [] ag vs).symm
noncomputable def yw (op : ak) (ag : bn) (vs : b5) : Bool := (Uj op ag vs).isSome
noncomputable def pZ (op : ak) (ag : bn) (vs : b5) : Int := ((Uj op ag vs).getD (0, 0)).1
noncomputable def mZ (op : ak) (ag : bn) (vs : b5) : Int := ((Uj op ag vs).getD (0, 0)).2
theorem NT {r : Option (aq × LHp)} (h : (Et r).isSome = true) : r = bif ((Et r).getD (0, 0)).2 == 0 then some (.ret [I ((Et r).getD (0, 0)).1], []) else some (.panic 131 ((Et r).getD (0, 0)).2, []) := by
 unfold Et at h ⊢
 split at h
 ·rfl
 ·rename_i t c
  cases hb : Nat.beq t 131 && !(c == 0) with
  | false => rw [hb] at h; cases h
  | true =>
   rw [ba] at hb
   obtain rfl := bj hb.1
   have : (c == 0) = false := by simpa using hb.2
   simp [this]
 ·cases h
noncomputable def aaV : List AV -> LHp -> Tq
 | [.d Y4 ((op, _, _, _, ag, _), vs, _)], [] => .br (yw op ag vs) (.br (mZ op ag vs == 0) (.leaf (.ret [I (pZ op ag vs)]) []) (.leaf (.panic 131 (mZ op ag vs)) [])) .no
 | _, _ => .no
theorem Ul : bg 104 (ao aaV) := by
 have h1 := bD (d := 8) (l := []) I6 func104 call104
 refine aO fun args hs ae aH h' => ?_
 unfold aaV at h'
 split at h'
 ·rename_i op nm ins out ag _ vs _
  obtain ⟨hb, h2⟩ := Tq.br_no h'
  exact h1.okC (((Uk op nm ins out ag vs).trans (NT hb)).trans h2)
 ·cases h'
noncomputable def agc : Code := bd f106
noncomputable def qW : Code := cL (cL (cR (cR (cR agc))))
noncomputable def fZ : Cfg := ⟨32, 6, 0, [(3, [1, 16, 17, 18])], true⟩
noncomputable def CT : Env := (ry.add 146 (ao TD)).add 144 (ao SW)
theorem NU : CT.Good := (dB.add Gx).add Gl
def I8 (t : Int) : LSt := ⟨aw 6 [(1, I t), (16, .nils), (17, I 0), (18, I 0)], [], 0⟩
def I7 (t : Int) (l : List (ak)) (i : Int) : LSt := ⟨aw 6 [(1, I t), (16, .d (.slice .str) l), (17, I (Int.ofNat l.length)), (18, I i)], [], 0⟩
noncomputable def PQ : AEx -> LSt -> Option (aq × LHp) := (aQ 0 (aZ prog 0 f106.results.toList ah))
theorem aaW (op nm : ak) (ins : List (ak)) (out : ak) (ag : bn) (vs : b5) (t : Int) : aC CT f106 6 [(3, [1, 16, 17, 18])] [fD (op, nm, ins, out, ag, ()) vs, I t] [] ah = bif aF ag then bif k8 ag then (hlp CT fZ) qW _ (I8 t) PQ else bif iW ag then (hlp CT fZ) qW _ (I8 t) PQ else (hlp CT fZ) qW _ (I7 t (oS ag) 0) PQ else none := (bq [3] fZ rfl).trans (by obtain ⟨hl, h⟩ := bc CT fZ; rw [h]; kernel_rfl)
theorem NV (t : Int) (l : List (ak)) (i : Int) (n : Nat) {R : Type} (k : AEx -> LSt -> Option R) : lp CT fZ qW (n + 1) (I7 t l i) k = bif decide (i < Int.ofNat l.length) then (idx l i).bind fun v1 => bif !(k9 v1 t).2 == 0 then k (AEx.panic 131 4) { fr := aw 6 [(1, I t), (7, AV.d Ty.str v1), (8, I (k9 v1 t).1), (9, I (k9 v1 t).2), (16, AV.d Ty.str.slice l), (17, I (Int.ofNat l.length)), (18, I i), (19, B true), (20, AV.ip Ty.str v1), (21, AV.d Ty.str v1), (22, AV.tup [I (k9 v1 t).1, I (k9 v1 t).2]), (23, AV.d Ty.str v1), (24, I t), (25, AV.tup [I (k9 v1 t).1, I (k9 v1 t).2]), (26, I (k9 v1 t).1), (27, I (k9 v1 t).2), (28, I (k9 v1 t).2), (29, B ((k9 v1 t).2 == 0))], hp := [], nx := 0 } else lp CT fZ qW n (I7 t l (i64.wrap (i + 1))) k else k (AEx.exit 0) { fr := aw 6 [(1, I t), (16, AV.d Ty.str.slice l), (17, I (Int.ofNat l.length)), (18, I i), (19, B false)], hp := [], nx := 0 } := by kernel_rfl
theorem aaX (t : Int) (n : Nat) {R : Type} (k : AEx -> LSt -> Option R) : lp CT fZ qW (n + 1) (I8 t) k = k (AEx.exit 0) { fr := aw 6 [(1, I t), (16, AV.nils), (17, I 0), (18, I 0), (19, B false)], hp := [], nx := 0 } := by kernel_rfl
theorem Wv (t : Int) (q : AV) (i n : Int) : PQ (.exit 0) ⟨aw 6 [(1, I t), (16, q), (17, I n), (18, I i), (19, B false)], [], 0⟩ = az [] := by kernel_rfl
noncomputable def okU (t : Int) (o : ak) : Bool := (k9 o t).2 == 0
theorem aaY {t : Int} {l : List (ak)} (hl : l.length <= 2147483648) : ∀ (r j nn : Nat), j + r = l.length -> r < nn ->
  lp CT fZ qW nn (I7 t l ((j : Nat) : Int)) PQ = bif (l.drop j).all (okU t) then some (.ret [], []) else some (.panic 131 4, []) := by
 intro r
 induction r with
 | zero =>
  intro j nn hj hn
  obtain ⟨nn, rfl⟩ : ∃ m', nn = m' + 1 := ⟨nn - 1, by omega⟩
  rw [NV, bU (show ¬ (((j : Nat) : Int) < Int.ofNat l.length) by simp only [aK]; omega), ax, List.drop_eq_nil_of_le (by omega)]
  exact Wv t _ _ _
 | succ r ih =>
  intro j nn hj hn
  obtain ⟨nn, rfl⟩ : ∃ m', nn = m' + 1 := ⟨nn - 1, by omega⟩
  have key := ih (j + 1) nn (by omega) (by omega)
  have bJ : j < l.length := by omega
  have gI : idx l ((j : Nat) : Int) = some (l[j]) := by
   unfold idx
   rw [if_pos (by omega), Int.toNat_natCast, List.getElem?_eq_getElem bJ]
  have ed : l.drop j = l[j] :: l.drop (j + 1) := List.drop_eq_getElem_cons bJ
  have w1 : i64.wrap (((j : Nat) : Int) + 1) = ((j + 1 : Nat) : Int) := by rw [aI (by omega) (by omega)]; omega
  generalize l[j] = o at *
  rw [NV, aD (show ((j : Nat) : Int) < Int.ofNat l.length by simp only [aK]; omega), ai, gI, aB, w1, ed, List.all_cons]
  have eo : okU t o = ((k9 o t).2 == 0) := rfl
  rw [eo]
  cases hb : (k9 o t).2 == 0 with
  | true =>
   rw [Bool.not_true, ax, Bool.true_and]
   exact key
  | false =>
   show _ = _
   kernel_rfl
theorem aaZ (t : Int) (l : List (ak)) : hlp CT fZ qW (aq × LHp) (I7 t l 0) PQ = lp CT fZ qW fu (I7 t l 0) PQ := rfl
theorem NW (t : Int) : hlp CT fZ qW (aq × LHp) (I8 t) PQ = lp CT fZ qW fu (I8 t) PQ := rfl
noncomputable def kc (ag : bn) (t : Int) : Bool := k8 ag || iW ag || (oS ag).all (okU t)
theorem Um {op nm : ak} {ins : List (ak)} {out : ak} {ag : bn} {vs : b5} {t : Int} (h : aF ag = true) : aC CT f106 6 [(3, [1, 16, 17, 18])] [fD (op, nm, ins, out, ag, ()) vs, I t] [] ah = bif kc ag t then some (.ret [], []) else some (.panic 131 4, []) := by
 obtain ⟨n', zj⟩ : ∃ n, fu = n + 1 := ⟨18446744073709551615, rfl⟩
 have en : lp CT fZ qW fu (I8 t) PQ = some (.ret [], []) := by
  rw [zj, aaX]
  exact Wv t _ _ _
 rw [aaW, h, ai]
 unfold kc
 cases k8 ag with
 | true => exact (NW t).trans en
 | false =>
  rw [ax]
  cases iW ag with
  | true => exact (NW t).trans en
  | false =>
   rw [ax]
   have hl : (oS ag).length <= 2147483648 := by
    unfold oS
    cases hf : ag.find? (ie mK 3) with
    | none => simp
    | some a =>
     have := gN h (List.mem_of_find?_eq_some hf)
     have h2 := pU a.2.2.2.2.1
     have h3 := this.2.1
     show (cc a.2.2.2.2.1).length <= _
     omega
   have key := aaY (t := t) hl (oS ag).length 0 fu (by omega) (by unfold fu; omega)
   rw [List.drop_zero] at key
   exact (aaZ t (oS ag)).trans key
noncomputable def aa0 : List AV -> LHp -> Tq
 | [.d Y4 ((_, _, _, _, ag, _), _, _), .d zI t], [] => .br (aF ag) (.br (kc ag t) (.leaf (.ret []) []) (.leaf (.panic 131 4) [])) .no
 | _, _ => .no
theorem Un : bg 106 (ao aa0) := by
 have h1 := bD (d := 6) (l := [(3, [1, 16, 17, 18])]) NU func106 call106
 refine aO fun args hs ae aH h' => ?_
 unfold aa0 at h'
 split at h'
 ·obtain ⟨hb, h2⟩ := Tq.br_no h'
  exact h1.okC ((Um hb).trans h2)
 ·cases h'
def cY : ak := iv
def nu : ak := dq
def tK (ks : af) : Nat -> List Int -> Bool
 | _, [] => true
 | i, p :: r => decide (p < ks.getD (i % 2) 0) && tK ks (i + 1) r
def plL (xs : af) (H W : Int) : Option (aq × LHp) := some (.ret [.os 0 0], [(0, .arr 3 aa 0 false [xs.getD 0 0, xs.getD 1 0, H, W])])
theorem tL {xs : af} {i : Nat} (h : i < xs.length) : idx xs ((i : Nat) : Int) = some (xs.getD i 0) := by
 unfold idx
 rw [if_pos (by omega), Int.toNat_natCast, List.getD_eq_getElem?_getD, List.getElem?_eq_getElem h]
 rfl
theorem plx {xs : af} (hx : xs.length = 4) (H W : Int) : ((idx xs 0).bind fun v0 => (idx xs 1).bind fun v1 => some (aq.ret [AV.os 0 0], [(0, aj.arr 3 aa 0 false [v0, v1, H, W])])) = plL xs H W := by
 have e0 := tL (xs := xs) (i := 0) (by omega)
 have e1 := tL (xs := xs) (i := 1) (by omega)
 have e0 : idx xs 0 = some (xs.getD 0 0) := e0
 have e1 : idx xs 1 = some (xs.getD 1 0) := e1
 rw [e0, e1]
 rfl
theorem aa1 {xs ks ps : af} {H W : Int} (hx : xs.length = 4) (hk : ks.length = 2) (hp : ps.length <= 2147483648) : ∀ (r j nn : Nat), j + r = ps.length -> r < nn ->
  lp wq dW oY nn (IZ xs ks ps H W ((j : Nat) : Int)) J4 = bif tK ks j (ps.drop j) then plL xs H W else some (.panic 131 4, []) := by
 intro r
 induction r with
 | zero =>
  intro j nn hj hn
  obtain ⟨nn, rfl⟩ : ∃ m', nn = m' + 1 := ⟨nn - 1, by omega⟩
  rw [NH, bU (show ¬ (((j : Nat) : Int) < Int.ofNat ps.length) by simp only [aK]; omega), ax, List.drop_eq_nil_of_le (by omega)]
  exact (aaJ xs ks ps H W _).trans (plx hx H W)
 | succ r ih =>
  intro j nn hj hn
  obtain ⟨nn, rfl⟩ : ∃ m', nn = m' + 1 := ⟨nn - 1, by omega⟩
  have key := ih (j + 1) nn (by omega) (by omega)
  have bJ : j < ps.length := by omega
  have g1 : idx ps ((j : Nat) : Int) = some (ps[j]) := by unfold idx; rw [if_pos (by omega), Int.toNat_natCast, List.getElem?_eq_getElem bJ]
  have g2 : ps[j]? = some (ps[j]) := List.getElem?_eq_getElem bJ
  have ed : ps.drop j = ps[j] :: ps.drop (j + 1) := List.drop_eq_getElem_cons bJ
  have w1 : i64.wrap (((j : Nat) : Int) + 1) = ((j + 1 : Nat) : Int) := by rw [aI (by omega) (by omega)]; omega
  have m1 : ((j : Nat) : Int).tmod 2 = ((j % 2 : Nat) : Int) := (Int.ofNat_tmod _ _).symm
  have hm : j % 2 < ks.length := by omega
  have g3 := tL hm
  have g4 : ks[j % 2]? = some (ks.getD (j % 2) 0) := by rw [List.getD_eq_getElem?_getD, List.getElem?_eq_getElem hm]; rfl
  generalize ps[j] = p at *
  rw [NH, aD (show ((j : Nat) : Int) < Int.ofNat ps.length by simp only [aK]; omega), ai, g1, aB, Int.toNat_natCast, g2, aB, m1, g3, aB, Int.toNat_natCast, g4, aB, w1, ed]
  have eo : tK ks j (p :: ps.drop (j + 1)) = (decide (p < ks.getD (j % 2) 0) && tK ks (j + 1) (ps.drop (j + 1))) := rfl
  rw [eo]
  cases hb : decide (p < ks.getD (j % 2) 0) with
  | true =>
   rw [Bool.not_true, ax, Bool.true_and]
   exact key
  | false =>
   show _ = _
   kernel_rfl
theorem aa2 (xs ks ps : af) (H W : Int) : hlp wq dW oY (aq × LHp) (IZ xs ks ps H W 0) J4 = lp wq dW oY fu (IZ xs ks ps H W 0) J4 := rfl
theorem NX (xs ks : af) (H W : Int) (q : AV) : hlp wq dW oY (aq × LHp) (I0 xs ks H W q) J4 = lp wq dW oY fu (I0 xs ks H W q) J4 := rfl
theorem agd {xs : af} (hx : xs.length = 4) (ks : af) (H W : Int) : lp wq dW oY fu (I0 xs ks H W .nils) J4 = plL xs H W := by
 obtain ⟨n', zj⟩ : ∃ n, fu = n + 1 := ⟨18446744073709551615, rfl⟩
 rw [zj, aaH]
 exact (NI xs ks H W _).trans (plx hx H W)
theorem age {xs : af} (hx : xs.length = 4) (ks : af) (H W : Int) : lp wq dW oY fu (I0 xs ks H W .emp) J4 = plL xs H W := by
 obtain ⟨n', zj⟩ : ∃ n, fu = n + 1 := ⟨18446744073709551615, rfl⟩
 rw [zj, aaI]
 exact (NI xs ks H W _).trans (plx hx H W)
theorem BZ {ag : bn} (h : aF ag = true) (name : ak) : (al ag name []).length <= 2147483648 := by
 unfold al
 cases hf : ag.find? (ie name 7) with
 | none => simp
 | some a => exact (gN h (List.mem_of_find?_eq_some hf)).2.2
theorem oZ {c lo hi : Int} {l : af} (h : cJ c lo hi l = true) : Int.ofNat l.length = c := by
 unfold cJ at h
 rw [ba] at h
 exact eq_of_beq h.2
def aa3 (ag : bn) (xs : af) : Tq :=
 .br (aF ag) (.br (cJ 2 1 100 (al ag cY [])) (.br (Int.ofNat xs.length == 4) (.br (nR ag xs (al ag cY [])) (.br (gR ag xs (al ag cY []) == 0)
  (.br (tK (al ag cY []) 0 (al ag nu [])) (.leaf (.ret [.os 0 0]) [(0, .arr 3 aa 0 false [xs.getD 0 0, xs.getD 1 0, qU ag xs (al ag cY []), qV ag xs (al ag cY [])])]) (.leaf (.panic 131 4) []))
  (.leaf (.panic 131 (gR ag xs (al ag cY []))) [])) .no) (.leaf (.panic 131 4) [])) (.leaf (.panic 131 4) [])) .no
theorem Uo {op nm : ak} {ins : List (ak)} {out : ak} {ag : bn} {vs : b5} {xs : af} (hs : aF ag = true) : aC wq f154 6 [(5, [1, 5, 6, 7, 26, 27, 28])] [BX (op, nm, ins, out, ag, ()) vs, .d (.slice aa) xs] [] ah = (aa3 ag xs).run ah := by
 have hlen := bM hs
 have hK := BZ hs cY
 have hP := BZ hs nu
 refine Eq.trans (aaG op nm ins out ag vs xs) ?_
 change (bif decide (ag.length <= 9223372036854775807 /\ (al ag cY []).length <= 2147483648) then (bif cJ 2 1 100 (al ag cY []) then _ else _) else _) = (bif aF ag then (bif cJ 2 1 100 (al ag cY []) then _ else _) else _)
 rw [hs, aD (show ag.length <= 9223372036854775807 /\ (al ag cY []).length <= 2147483648 from ⟨by omega, hK⟩), ai, ai]
 cases hn : cJ 2 1 100 (al ag cY []) with
 | false => rfl
 | true =>
  have PJ : (al ag cY []).length = 2 := by
   have := oZ hn
   simp only [aK] at this
   omega
  rw [ai, ai]
  change (bif !(Int.ofNat xs.length == 4) then _ else (bif decide (xs.length = 4 /\ (al ag cY []).length = 2) then (bif nR ag xs (al ag cY []) then (bif gR ag xs (al ag cY []) == 0 then _ else _) else _) else _)) = (bif Int.ofNat xs.length == 4 then (bif nR ag xs (al ag cY []) then (bif gR ag xs (al ag cY []) == 0 then _ else _) else _) else _)
  cases hx : Int.ofNat xs.length == 4 with
  | false => rfl
  | true =>
   have hx4 : xs.length = 4 := by
    have := eq_of_beq hx
    simp only [aK] at this
    omega
   rw [Bool.not_true, ax, ai, aD (show xs.length = 4 /\ (al ag cY []).length = 2 from ⟨hx4, PJ⟩), ai]
   cases nR ag xs (al ag cY []) with
   | false => rfl
   | true =>
    cases gR ag xs (al ag cY []) == 0 with
    | false => rfl
    | true =>
     rw [ai, ai, ai, ai, aD (show ag.length <= 9223372036854775807 by omega), ai]
     change (bif (ag.find? (ie nu 7)).isNone then _ else (bif decide (al ag nu [] = []) then _ else (bif decide ((al ag nu []).length <= 2147483648) then _ else _))) = (bif tK (al ag cY []) 0 (al ag nu []) then _ else _)
     cases hq : (ag.find? (ie nu 7)).isNone with
     | true =>
      have hz : al ag nu [] = [] := by
       unfold al
       cases hf2 : ag.find? (ie nu 7) with
       | none => rfl
       | some a => rw [hf2] at hq; cases hq
      rw [hz, ai]
      exact (NX xs _ _ _ .nils).trans (agd hx4 _ _ _)
     | false =>
      rw [ax]
      cases PG : al ag nu [] with
      | nil =>
       rw [show (decide (([] : af) = [])) = true from rfl, ai]
       exact (NX xs _ _ _ .emp).trans (age hx4 _ _ _)
      | cons p pm =>
       have hps2 : al ag dq [] = p :: pm := PG
       rw [PG] at hP
       rw [show (decide (p :: pm = [])) = false from rfl, ax, aD hP, ai, hps2]
       refine (aa2 xs _ (p :: pm) _ _).trans ?_
       exact aa1 hx4 PJ hP (p :: pm).length 0 fu (by omega) (by unfold fu; omega)
def aa4 : List AV -> LHp -> Tq
 | [.d Y4 ((_, _, _, _, ag, _), _, _), .d zS xs], [] => aa3 ag xs
 | _, _ => .no
theorem Up : bg 154 (ao aa4) := by
 have h1 := bD (d := 6) (l := [(5, [1, 5, 6, 7, 26, 27, 28])]) NG func154 call154
 refine aO fun args hs ae aH h' => ?_
 unfold aa4 at h'
 split at h'
 ·have h2 := h'
  unfold aa3 at h2
  obtain ⟨hb, _⟩ := Tq.br_no h2
  exact h1.okC ((Uo hb).trans h')
 ·cases h'
def PR (xs ps : af) (i : Nat) : Int := i64.wrap (xs.getD i 0 + i64.wrap (ps.getD i 0 + ps.getD (xs.length + i) 0))
def pdL (xs ps : af) : af := (List.range xs.length).map (PR xs ps)
def PS (xs ps : af) (i : Nat) : af := (List.range i).map (PR xs ps) ++ xs.drop i
noncomputable def KPd : AEx -> LSt -> Option (aq × LHp) := (aQ 0 (aX oW gQ [4] (hlp oW gQ) (cR (cR (cR (cR Nh)))) (aZ prog 0 f221.results.toList ah)))
theorem aa6 {xs ps : af} (hx : xs.length <= 2147483648) (hp : ps.length = 2 * xs.length) : lp oW gQ Ed fu (Ek xs ps (Int.ofNat xs.length) 0 xs) KPd = yj 3 (some (pdL xs ps)) := by
 have hm : maxLen = 9223372036854775807 := by decide
 have h := cq (xs := xs) (T := fun n s => lp oW gQ Ed n s KPd) (st := fun (i : Int) (_ : Unit) => Ek xs ps (Int.ofNat xs.length) i (PS xs ps i.toNat)) (f := fun (a : Unit) (_ : Int) => .go a) (fin := fun (_ : Unit) => (some (.ret [.os 0 0], [(0, .arr 3 aa 0 false (pdL xs ps))]) : Option (aq × LHp))) (fun (_ : Nat) (_ : Unit) => True) (by omega) ?_ ?_ (a := ()) trivial
 ·have e : ∀ l : af, cg (fun (a : Unit) (_ : Int) => Nx.go a) (fun (_ : Unit) => (some (.ret [.os 0 0], [(0, .arr 3 aa 0 false (pdL xs ps))]) : Option (aq × LHp))) l () = some (.ret [.os 0 0], [(0, .arr 3 aa 0 false (pdL xs ps))]) := by
   intro l
   induction l with
   | nil => rfl
   | cons _ l ih => exact ih
  exact h.trans (e xs)
 ·intro i _ x n _ hi gx gi hw hd
  refine .inl ⟨(), rfl, trivial, ?_⟩
  have ed : xs.drop i = x :: xs.drop (i + 1) := by
   rw [List.getElem?_eq_getElem hi] at gx
   rw [← Option.some.inj gx]
   exact List.drop_eq_getElem_cons hi
  have el : ((List.range i).map (PR xs ps)).length = i := by simp
  have ex : x = xs.getD i 0 := by rw [List.getD_eq_getElem?_getD, gx]; rfl
  have ea : PS xs ps i = (List.range i).map (PR xs ps) ++ x :: xs.drop (i + 1) := by unfold PS; rw [ed]
  have g1 := mJ ((List.range i).map (PR xs ps)) x (xs.drop (i + 1))
  rw [el, ← ea] at g1
  have g2 : (PS xs ps i)[i]? = some x := by rw [ea, List.getElem?_append_right (by omega), el, Nat.sub_self]; rfl
  have g3 := rz ((List.range i).map (PR xs ps)) x (PR xs ps i) (xs.drop (i + 1))
  rw [el, ← ea] at g3
  have g4 : idx ps (i : Int) = some (ps.getD i 0) := cS (by omega)
  have w5 : i64.wrap (Int.ofNat xs.length + (i : Int)) = ((xs.length + i : Nat) : Int) := by simp only [aK]; rw [aI (by omega) (by omega)]; omega
  have g5 : idx ps ((xs.length + i : Nat) : Int) = some (ps.getD (xs.length + i) 0) := cS (by omega)
  have en : (List.range i).map (PR xs ps) ++ PR xs ps i :: xs.drop (i + 1) = PS xs ps (i + 1) := by unfold PS; rw [List.range_succ, List.map_append, List.append_assoc]; rfl
  have ew : i64.wrap (x + i64.wrap (ps.getD i 0 + ps.getD (xs.length + i) 0)) = PR xs ps i := by rw [ex]; rfl
  have hs := Wo xs ps (Int.ofNat xs.length) (i : Int) (PS xs ps i) n KPd
  rw [hd, ai, g1, aB, Int.toNat_natCast, g2, aB, g4, aB, w5, g5, aB, aB, ew, g3, aB, hw, en] at hs
  exact hs
 ·intro _ n _ hd
  have e : PS xs ps xs.length = pdL xs ps := by unfold PS pdL; rw [List.drop_eq_nil_of_le (Nat.le_refl _), List.append_nil]
  show lp _ _ _ (n + 1) (Ek xs ps (Int.ofNat xs.length) (xs.length : Int) (PS xs ps xs.length)) _ = _
  rw [Wo, hd, ax, e]
  show _ = _
  kernel_rfl
theorem agh (xs ps : af) : hlp oW gQ Ed (aq × LHp) (Ek xs ps (Int.ofNat xs.length) 0 xs) KPd = lp oW gQ Ed fu (Ek xs ps (Int.ofNat xs.length) 0 xs) KPd := rfl
def kH : ak := dq
def Uq (ag : bn) (xs : af) : Option (af) := bif cJ (Int.ofNat (2 * xs.length)) 0 65536 (al ag kH []) then some (pdL xs (al ag kH [])) else none
def agi (ag : bn) (xs : af) : Bool := (Uq ag xs).isSome
def agj (ag : bn) (xs : af) : af := (Uq ag xs).getD []
def aa7 : List AV -> LHp -> Tq
 | [.d Y4 ((_, _, _, _, ag, _), _, _), .d zS xs], [] => .br (aF ag) (.br (decide (xs.length <= 2147483648)) (TW (agi ag xs) (agj ag xs)) .no) .no
 | _, _ => .no
theorem Ur : bg 221 (ao aa7) := by
 have h1 := bD (d := 6) (l := [(4, [1, 5, 6, 17, 18])]) IN func221 call221
 refine aO fun args hs ae aH h' => ?_
 unfold aa7 at h'
 split at h'
 ·rename_i op nm ins out ag _ vs _ xs
  obtain ⟨hs, h2⟩ := Tq.br_no h'
  obtain ⟨hb, h3⟩ := Tq.br_no h2
  have hb := aU hb
  refine h1.okO (.slice aa) (Eq.trans ?_ (show (tI (Uq ag xs)).run ah = some (ae, aH) from h3))
  refine Eq.trans (congrArg (cK _) (aar op nm ins out ag vs xs)) ?_
  have w : i64.wrap (Int.ofNat (2 * xs.length)) = Int.ofNat (2 * xs.length) := by simp only [aK]; exact aI (by omega) (by omega)
  rw [hs, ai, w, aD hb, ai]
  rw [← jG 3]
  unfold Uq
  change cK _ (bif cJ (Int.ofNat (2 * xs.length)) 0 65536 (al ag kH []) then _ else _) = _
  cases hq : cJ (Int.ofNat (2 * xs.length)) 0 65536 (al ag kH []) with
  | false => rfl
  | true =>
   have hlen := oZ hq
   have hlen : (al ag kH []).length = 2 * xs.length := by simp only [aK] at hlen; omega
   have h9 := (agh xs (al ag kH [])).trans (aa6 hb hlen)
   rw [ai, ai]
   exact congrArg (cK (.slice aa)) h9
 ·cases h'
noncomputable def agk : FnE := b8 [(Y4), .slice aa] (ao aa7)
theorem Us : bg 221 agk := bf Ur
noncomputable def PT : AEx -> LSt -> Option (aq × LHp) := (aQ 0 (aX eW bQ [4, 8] (hlp eW bQ) (cR (cR (cR (cR wi)))) (aZ prog 0 f218.results.toList ah)))
noncomputable def KCi (n : Nat) : AEx -> LSt -> Option (aq × LHp) := (aQ 2 (aQ 1 (aX eW bQ [4, 8] (hlp eW bQ) (cR (cR (cR (cL (cL (cR (cL (cR (cR (cR wi)))))))))) (oE eW bQ [4, 8] (hlp eW bQ) qS n PT))))
theorem agl (xs : af) (a : Int) (vs : b5) (j : Int) (ds : af) (i : Int) (o : af) (n : Nat) : KCi n (.exit 2) { fr := aw 6 [(1, AV.d (aa).slice xs), (5, I a), (6, AV.os 0 0), (21, AV.d (.slice (Y3)) vs), (22, I (Int.ofNat vs.length)), (23, I j), (35, AV.d (aa).slice ds), (36, I (Int.ofNat ds.length)), (37, I i), (38, B false)], hp := [(0, aj.arr 3 (aa) 0 false o)], nx := 1 } = lp eW bQ qS n (oX xs a vs (i64.wrap (j + 1)) o) PT := by
 rw [← kZ (ids := [4, 8])]
 kernel_rfl
def CU (xs : af) (a : Int) : Nat -> List Int -> List Int -> Option (af)
 | _, [], o => some o
 | i, d :: r, o => bif (i : Int) == a then CU xs a (i + 1) r (o.set i (i64.wrap (o.getD i 0 + d))) else bif d == xs.getD i 0 then CU xs a (i + 1) r o else none
def Ww (xs : af) (a : Int) : b5 -> List Int -> Option (af)
 | [], o => some o
 | v :: vs, o => bif Int.ofNat (List.length v.2.2.1) == Int.ofNat xs.length then (CU xs a 0 v.2.2.1 o).bind (Ww xs a vs) else none
def coN (xs : af) (a : Int) (s : Nat × af) (d : Int) : Nx (Nat × af) (aq × LHp) := bif (s.1 : Int) == a then .go (s.1 + 1, s.2.set s.1 (i64.wrap (s.2.getD s.1 0 + d))) else bif d == xs.getD s.1 0 then .go (s.1 + 1, s.2) else .stop (some (.panic 131 4, []))
theorem yx (xs : af) (a : Int) (fin : List Int -> Option (aq × LHp)) : ∀ (ds : af) (i : Nat) (o : af), cg (coN xs a) (fun s => fin s.2) ds (i, o) = match CU xs a i ds o with | some o' => fin o' | none => some (.panic 131 4, [])
 | [], i, o => rfl
 | d :: r, i, o => by
  have e : coN xs a (i, o) d = bif (i : Int) == a then .go (i + 1, o.set i (i64.wrap (o.getD i 0 + d))) else bif d == xs.getD i 0 then .go (i + 1, o) else .stop (some (.panic 131 4, [])) := rfl
  rw [cg, e, CU]
  cases (i : Int) == a with
  | true => exact yx xs a fin r (i + 1) _
  | false =>
   cases d == xs.getD i 0 with
   | true => exact yx xs a fin r (i + 1) _
   | false => rfl
theorem yy {xs : af} {a : Int} : ∀ {ds : af} {i : Nat} {o o' : af}, CU xs a i ds o = some o' -> o'.length = o.length
 | [], i, o, o', h => by cases h; rfl
 | d :: r, i, o, o', h => by
  rw [CU] at h
  cases h1 : (i : Int) == a with
  | true =>
   rw [h1, ai] at h
   rw [yy h, List.length_set]
  | false =>
   rw [h1, ax] at h
   cases h2 : d == xs.getD i 0 with
   | true => rw [h2, ai] at h; exact yy h
   | false => rw [h2] at h; cases h
theorem aa8 {xs ds o : af} {a : Int} {vs : b5} {j n : Nat} (hx : xs.length <= 2147483648) (E2 : ds.length = xs.length) (ho : o.length = xs.length) (hw' : i64.wrap ((j : Int) + 1) = ((j + 1 : Nat) : Int)) :
  lp eW bQ BR fu (BU xs a vs (j : Int) ds 0 o) (KCi n) = match CU xs a 0 ds o with | some o' => lp eW bQ qS n (oX xs a vs ((j + 1 : Nat) : Int) o') PT | none => some (.panic 131 4, []) := by
 have hm : maxLen = 9223372036854775807 := by decide
 refine (cq (xs := ds) (T := fun n' s => lp eW bQ BR n' s (KCi n)) (st := fun (i : Int) (s : Nat × af) => BU xs a vs (j : Int) ds i s.2) (f := coN xs a) (fin := fun (s : Nat × af) => lp eW bQ qS n (oX xs a vs ((j + 1 : Nat) : Int) s.2) PT) (fun (i : Nat) (s : Nat × af) => s.1 = i /\ s.2.length = xs.length) (by omega) ?_ ?_ (a := (0, o)) ⟨rfl, ho⟩).trans (yx xs a (fun o' => lp eW bQ qS n (oX xs a vs ((j + 1 : Nat) : Int) o') PT) ds 0 o)
 ·rintro i ⟨i', o⟩ d n' ⟨rfl, hI⟩ fc gx gi hw hd
  have hI : o.length = xs.length := hI
  have fc : i' < ds.length := fc
  have e : coN xs a (i', o) d = bif (i' : Int) == a then .go (i' + 1, o.set i' (i64.wrap (o.getD i' 0 + d))) else bif d == xs.getD i' 0 then .go (i' + 1, o) else .stop (some (.panic 131 4, [])) := rfl
  have hs := Wq xs a vs (j : Int) ds (i' : Int) o n' (KCi n)
  have go : idx o (i' : Int) = some (o.getD i' 0) := cS (by omega)
  have gx2 : idx xs (i' : Int) = some (xs.getD i' 0) := cS (by omega)
  have go2 : o[i']? = some (o.getD i' 0) := by rw [List.getD_eq_getElem?_getD, List.getElem?_eq_getElem (by omega)]; rfl
  have gs : fv o i' (i64.wrap (o.getD i' 0 + d)) = some (o.set i' (i64.wrap (o.getD i' 0 + d))) := by unfold fv; rw [show Nat.blt i' o.length = true from Nat.ble_eq_true_of_le (by omega)]; rfl
  rw [hd, ai, gi, aB, go, aB, Int.toNat_natCast, go2, aB, aB, gs, aB, gx2, aB, hw] at hs
  cases c1 : (i' : Int) == a with
  | true =>
   rw [c1, ai] at hs e
   exact .inl ⟨_, e, ⟨rfl, by show List.length (o.set i' _) = _; rw [List.length_set]; exact hI⟩, hs⟩
  | false =>
   rw [c1, ax] at hs e
   cases c2 : d == xs.getD i' 0 with
   | true =>
    rw [c2, ai] at e
    rw [c2, Bool.not_true, ax] at hs
    exact .inl ⟨_, e, ⟨rfl, hI⟩, hs⟩
   | false =>
    rw [c2, ax] at e
    rw [c2, Bool.not_false, ai] at hs
    exact .inr ⟨_, e, hs.trans (by kernel_rfl)⟩
 ·rintro ⟨i', o⟩ n' ⟨_, _⟩ hd
  show lp _ _ _ (n' + 1) (BU xs a vs (j : Int) ds (ds.length : Int) o) _ = _
  rw [Wq, hd, ax]
  have hx := agl xs a vs (j : Int) ds (ds.length : Int) o n
  rw [hw'] at hx
  exact hx
theorem aa9 (xs ds o : af) (a : Int) (vs : b5) (j : Int) (n : Nat) : hlp eW bQ BR (aq × LHp) (BU xs a vs j ds 0 o) (KCi n) = lp eW bQ BR fu (BU xs a vs j ds 0 o) (KCi n) := rfl
theorem aba {xs : af} {a : Int} {vs : b5} (hx : xs.length <= 2147483648) (hl : vs.length <= 2147483648) : lp eW bQ qS fu (oX xs a vs 0 xs) PT = yj 3 (Ww xs a vs xs) := by
 have hm : maxLen = 9223372036854775807 := by decide
 have sc : ∀ (l : b5) (o : af), cg (fun (o : af) (v : (Y3).den) => bif Int.ofNat (List.length v.2.2.1) == Int.ofNat xs.length then (match CU xs a 0 v.2.2.1 o with | some o' => Nx.go o' | none => Nx.stop (some (aq.panic 131 4, ([] : LHp)))) else Nx.stop (some (aq.panic 131 4, ([] : LHp)))) (fun o => yj 3 (some o)) l o = yj 3 (Ww xs a l o) := by
  intro l
  induction l with
  | nil => intro o; rfl
  | cons v l ih =>
   intro o
   rw [cg, Ww]
   cases Int.ofNat (List.length v.2.2.1) == Int.ofNat xs.length with
   | false => rfl
   | true =>
    rw [ai, ai]
    cases CU xs a 0 v.2.2.1 o with
    | none => rfl
    | some o' => exact ih o'
 refine (cq (xs := vs) (T := fun n s => lp eW bQ qS n s PT) (st := fun (i : Int) (o : af) => oX xs a vs i o) (f := fun (o : af) (v : (Y3).den) => bif Int.ofNat (List.length v.2.2.1) == Int.ofNat xs.length then (match CU xs a 0 v.2.2.1 o with | some o' => Nx.go o' | none => Nx.stop (some (aq.panic 131 4, ([] : LHp)))) else Nx.stop (some (aq.panic 131 4, ([] : LHp)))) (fin := fun (o : af) => yj 3 (some o)) (fun (_ : Nat) (o : af) => o.length = xs.length) (by omega) ?_ ?_ (a := xs) rfl).trans (sc vs xs)
 ·intro i o v n hI hi gx gi hw hd
  have hs := Wp xs a vs (i : Int) o n PT
  rw [hd, ai, gi, aB] at hs
  cases c1 : Int.ofNat (List.length v.2.2.1) == Int.ofNat xs.length with
  | false =>
   rw [c1, Bool.not_false, ai] at hs
   refine .inr ⟨_, rfl, hs.trans ?_⟩
   kernel_rfl
  | true =>
   have hlen : List.length v.2.2.1 = xs.length := by
    have := eq_of_beq c1
    simp only [aK] at this
    omega
   rw [c1, Bool.not_true, ax] at hs
   have C0 := (aa9 xs v.2.2.1 o a vs (i : Int) n).trans (aa8 (n := n) hx hlen hI hw)
   have nc := hs.trans C0
   simp only [ai]
   cases c2 : CU xs a 0 v.2.2.1 o with
   | none =>
    rw [c2] at nc
    exact .inr ⟨_, rfl, nc⟩
   | some o' =>
    rw [c2] at nc
    exact .inl ⟨o', rfl, (yy c2).trans hI, nc⟩
 ·intro o n hI hd
  rw [Wp, hd, ax]
  show _ = _
  kernel_rfl
theorem agm (xs : af) (a : Int) (vs : b5) : hlp eW bQ qS (aq × LHp) (oX xs a vs 0 xs) PT = lp eW bQ qS fu (oX xs a vs 0 xs) PT := rfl
def yz (ag : bn) (vs : b5) (xs : af) : Option (af) := bif qR (aT ag dv 0) (Int.ofNat xs.length) then Ww xs (kF (aT ag dv 0) (Int.ofNat xs.length)) (vs.drop 1) xs else none
def I9 (ag : bn) (vs : b5) (xs : af) : Bool := (yz ag vs xs).isSome
def Ja (ag : bn) (vs : b5) (xs : af) : af := (yz ag vs xs).getD []
def abb : List AV -> LHp -> Tq
 | [.d Y4 ((_, _, _, _, ag, _), vs, _), .d zS xs], [] => .br (aF ag) (.br (decide (xs.length <= 2147483648)) (.br (decide (1 <= vs.length /\ vs.length <= 2147483648)) (TW (I9 ag vs xs) (Ja ag vs xs)) .no) .no) .no
 | _, _ => .no
theorem Ut : bg 218 (ao abb) := by
 have h1 := bD (d := 6) (l := [(4, [1, 5, 6, 21, 22, 23]), (8, [1, 5, 6, 21, 22, 23, 35, 36, 37])]) IM func218 call218
 refine aO fun args hs ae aH h' => ?_
 unfold abb at h'
 split at h'
 ·rename_i op nm ins out ag _ vs _ xs
  obtain ⟨hs, h2⟩ := Tq.br_no h'
  obtain ⟨hb, h3⟩ := Tq.br_no h2
  obtain ⟨hv, h4⟩ := Tq.br_no h3
  have hb := aU hb
  obtain ⟨v1, v2⟩ := aU hv
  have hlen := bM hs
  refine h1.okO (.slice aa) (Eq.trans ?_ (show (tI (yz ag vs xs)).run ah = some (ae, aH) from h4))
  refine Eq.trans (congrArg (cK _) (aaq op nm ins out ag vs xs)) ?_
  have ev : (if (0 : Int) <= 1 /\ 1 <= Int.ofNat vs.length /\ Int.ofNat vs.length <= Int.ofNat vs.length then some (List.drop 1 (List.take (Int.ofNat vs.length).toNat vs)) else none) = some (vs.drop 1) := by
   rw [if_pos (by simp only [aK]; omega)]
   rw [show (Int.ofNat vs.length).toNat = vs.length from rfl, List.take_of_length_le (Nat.le_refl _)]
  rw [aD (show ag.length <= 9223372036854775807 by omega), ai, ev, aB, aD hb, ai, ← jG 3]
  unfold yz
  change cK _ (bif qR (aT ag dv 0) (Int.ofNat xs.length) then _ else _) = _
  cases hq : qR (aT ag dv 0) (Int.ofNat xs.length) with
  | false => rfl
  | true =>
   have h9 := (agm xs (kF (aT ag dv 0) (Int.ofNat xs.length)) (vs.drop 1)).trans (aba hb (by rw [List.length_drop]; omega))
   rw [ai, ai]
   exact congrArg (cK (.slice aa)) h9
 ·cases h'
noncomputable def agn : FnE := b8 [(Y4), .slice aa] (ao abb)
theorem Uu : bg 218 agn := bf Ut
def yA (c : Int) (l : af) : Tq := .br (c == 0) (dat (.slice aa) l) (pnc 131 c)
def ago (a r : Int) : Bool := decide (i64.wrap (0 - r) <= a) && decide (a <= r)
def abd (a r : Int) : Int := bif decide (a < 0) then i64.wrap (a + r) else a
def Uv (ag : bn) (xs : af) : Option (af) := bif ago (aT ag dv 1) (Int.ofNat xs.length) then some [aJ (xs.take (abd (aT ag dv 1) (Int.ofNat xs.length)).toNat), aJ (xs.drop (abd (aT ag dv 1) (Int.ofNat xs.length)).toNat)] else none
def agp (ag : bn) (xs : af) : Bool := (Uv ag xs).isSome
def agq (ag : bn) (xs : af) : af := (Uv ag xs).getD []
def abe : List AV -> LHp -> Tq
 | [.d Y4 ((_, _, _, _, ag, _), _, _), .d zS xs], [] => .br (aF ag) (.br (decide (xs.length <= 2147483648)) (TW (agp ag xs) (agq ag xs)) .no) .no
 | _, _ => .no
theorem B0 {xs : af} {k : Int} (h0 : 0 <= k) (h1 : k <= (xs.length : Int)) : (if (0 : Int) <= 0 /\ 0 <= k /\ k <= Int.ofNat xs.length then some (List.drop 0 (List.take k.toNat xs)) else none) = some (xs.take k.toNat) := by
 rw [if_pos ⟨by omega, h0, by simp only [aK]; exact h1⟩]; rfl
theorem Wx {xs : af} {k : Int} (h0 : 0 <= k) (h1 : k <= (xs.length : Int)) : (if 0 <= k /\ k <= Int.ofNat xs.length /\ Int.ofNat xs.length <= Int.ofNat xs.length then some (List.drop k.toNat (List.take (Int.ofNat xs.length).toNat xs)) else none) = some (xs.drop k.toNat) := by
 rw [if_pos ⟨h0, by simp only [aK]; exact h1, Int.le_refl _⟩, show (Int.ofNat xs.length).toNat = xs.length from rfl, List.take_of_length_le (Nat.le_refl _)]
theorem Uw : bg 224 (ao abe) := by
 have h1 := bD (d := 6) (l := []) IP func224 call224
 refine aO fun args hs ae aH h' => ?_
 unfold abe at h'
 split at h'
 ·rename_i op nm ins out ag _ vs _ xs
  obtain ⟨hs, h2⟩ := Tq.br_no h'
  obtain ⟨hb, h3⟩ := Tq.br_no h2
  have hb := aU hb
  have hlen := bM hs
  refine h1.okO (.slice aa) (Eq.trans ?_ (show (tI (Uv ag xs)).run ah = some (ae, aH) from h3))
  refine Eq.trans (congrArg (cK _) (aas op nm ins out ag vs xs)) ?_
  have es : (cG : ak) = dv := rfl
  rw [es, aD (show ag.length <= 9223372036854775807 by omega), ai, ← jG 3]
  unfold Uv ago abd
  generalize hA : aT ag dv 1 = a
  cases c1 : decide (i64.wrap (0 - Int.ofNat xs.length) <= a) with
  | false => rfl
  | true =>
   cases c2 : decide (a <= Int.ofNat xs.length) with
   | false => rfl
   | true =>
    have d1 := aU c1
    have d2 := aU c2
    simp only [aK] at d1 d2
    rw [aI (by omega) (by omega)] at d1
    have fin : ∀ k : Int, 0 <= k -> k <= (xs.length : Int) -> cK (.slice aa) ((some (xs.take k.toNat)).bind fun v4 => bif decide (v4.length <= 9223372036854775807) then (some (xs.drop k.toNat)).bind fun v6 => (bif decide (v6.length <= 9223372036854775807) then some (aq.ret [AV.os 0 0], [(0, aj.arr 3 (aa) 0 false [aJ v4, aJ v6])]) else none) else none) = cK (.slice aa) (yj 3 (some [aJ (xs.take k.toNat), aJ (xs.drop k.toNat)])) := fun k _ _ => by
     rw [aB, aD (show (xs.take k.toNat).length <= 9223372036854775807 by rw [List.length_take]; omega), ai, aB, aD (show (xs.drop k.toNat).length <= 9223372036854775807 by rw [List.length_drop]; omega)]
     rfl
    rw [ai, Bool.not_true, ax, Bool.and_self, ai]
    cases c3 : decide (a < 0) with
    | true =>
     have d3 := aU c3
     have w : i64.wrap (a + Int.ofNat xs.length) = a + (xs.length : Int) := by simp only [aK]; exact aI (by omega) (by omega)
     rw [ai, ai, w, B0 (by omega) (by omega), Wx (by omega) (by omega)]
     exact fin _ (by omega) (by omega)
    | false =>
     have d3 := nz c3
     rw [ax, ax, B0 (by omega) (by omega), Wx (by omega) (by omega)]
     exact fin _ (by omega) (by omega)
 ·cases h'
noncomputable def agr : FnE := b8 [(Y4), .slice aa] (ao abe)
theorem Ux : bg 224 agr := bf Uw
def gr (xs ys : af) : af := bif ux xs ys then [] else py xs ys
def abf : List AV -> LHp -> Tq
 | [.d zS xs, .d zS ys], [] => .br (decide (xs.length <= 2147483648 /\ ys.length <= 2147483648)) (yA (dg xs ys) (gr xs ys)) .no
 | _, _ => .no
theorem Uy : bg 148 (ao abf) := by
 have h1 : bg 148 (BM (.slice aa) (ao SJ)) := oQ Gg
 refine aO fun args hs ae aH h' => ?_
 unfold abf at h'
 split at h'
 ·rename_i xs ys
  obtain ⟨hb, h2⟩ := Tq.br_no h'
  refine h1.ok _ _ _ _ (Eq.trans ?_ h2)
  show (D6 xs ys).run _ = _
  unfold D6 yA gr
  rw [hb]
  show (bif dg xs ys == 0 then _ else _) = (bif dg xs ys == 0 then _ else _)
  cases dg xs ys == 0 with
  | false => rfl
  | true =>
   rw [ai, ai]
   show (bif ux xs ys then _ else _) = az [.d (.slice aa) (bif ux xs ys then [] else py xs ys)]
   cases ux xs ys <;> rfl
 ·cases h'
noncomputable def Uz : FnE := b8 [.slice aa, .slice aa] (ao abf)
theorem yB : bg 148 Uz := bf Uy
def abg : List AV -> LHp -> Tq
 | [.d zS xs, .d zS ys], [] => .br (decide (xs.length <= 2147483648 /\ ys.length <= 2147483648)) (.br (dg xs ys == 0) (.leaf (.ret [.os 0 0]) [(0, .arr 3 aa 0 false (gr xs ys))]) (pnc 131 (dg xs ys))) .no
 | _, _ => .no
theorem UA : bg 148 (ao abg) := by
 have h1 : bg 148 (IG 3 aa (ao SJ)) := pX Gg
 refine aO fun args hs ae aH h' => ?_
 unfold abg at h'
 split at h'
 ·rename_i xs ys
  obtain ⟨hb, h2⟩ := Tq.br_no h'
  refine h1.ok _ _ _ _ (Eq.trans ?_ h2)
  show (D6 xs ys).run _ = _
  unfold D6 gr
  rw [hb]
  show (bif dg xs ys == 0 then _ else _) = (bif dg xs ys == 0 then _ else _)
  cases dg xs ys == 0 with
  | false => rfl
  | true =>
   rw [ai, ai]
   show (bif ux xs ys then _ else _) = some (aq.ret [.os 0 0], [(0, aj.arr 3 aa 0 false (bif ux xs ys then [] else py xs ys))])
   cases ux xs ys <;> rfl
 ·cases h'
noncomputable def ags : Env := Is.add 148 (ao abg)
theorem Jb : ags.Good := dM.add UA
theorem NY (xs ys : af) : aC ags f151 6 [] [.d (.slice aa) xs, .d (.slice aa) ys] [] ah = bif decide (Int.ofNat xs.length >= 2) then bif !decide (Int.ofNat ys.length >= 2) then aV else (idx xs (i64.wrap (i64.wrap (Int.ofNat xs.length - 2) + 1))).bind fun v2 => (idx ys (i64.wrap (Int.ofNat ys.length - 2))).bind fun v3 => bif !v2 == v3 then aV else (if (0 : Int) <= 0 /\ 0 <= i64.wrap (Int.ofNat xs.length - 2) /\ i64.wrap (Int.ofNat xs.length - 2) <= Int.ofNat xs.length then some (List.drop 0 (List.take (i64.wrap (Int.ofNat xs.length - 2)).toNat xs)) else none).bind fun v5 => (if (0 : Int) <= 0 /\ 0 <= i64.wrap (Int.ofNat ys.length - 2) /\ i64.wrap (Int.ofNat ys.length - 2) <= Int.ofNat ys.length then some (List.drop 0 (List.take (i64.wrap (Int.ofNat ys.length - 2)).toNat ys)) else none).bind fun v6 => bif decide (v5.length <= 2147483648 /\ v6.length <= 2147483648) then bif dg v5 v6 == 0 then (idx xs (i64.wrap (Int.ofNat xs.length - 2))).bind fun v9 => (idx ys (i64.wrap (i64.wrap (Int.ofNat ys.length - 2) + 1))).bind fun v10 => (app (gr v5 v6) [v9, v10]).bind fun v11 => some (aq.ret [AV.os 0 0], [(0, aj.arr 3 (aa) 0 false v11)]) else (idx xs (i64.wrap (Int.ofNat xs.length - 2))).bind fun v9 => (idx ys (i64.wrap (i64.wrap (Int.ofNat ys.length - 2) + 1))).bind fun v10 => some (aq.panic 131 (dg v5 v6), []) else none else aV := by kernel_rfl
noncomputable def agt : Env := Is.add 59 (ao qO)
theorem Jc : agt.Good := dM.add ig
theorem abh (op nm : ak) (ins : List (ak)) (out : ak) (ag : bn) (vs : b5) (name : ak) (xs : af) : aC agt f213 6 [] [fD (op, nm, ins, out, ag, ()) vs, .d .str name, .d (.slice aa) xs] [] ah = bif decide (ag.length <= 9223372036854775807) then bif Int.ofNat xs.length == 2 then bif aT ag name 0 == 0 then bif aT ag name 0 == 1 then (idx xs 1).bind fun v4 => (idx xs 0).bind fun v5 => some (aq.ret [AV.os 0 0], [(0, aj.arr 3 (aa) 0 false [v4, v5])]) else az [AV.d (aa).slice xs] else bif !aT ag name 0 == 1 then aV else bif aT ag name 0 == 1 then (idx xs 1).bind fun v5 => (idx xs 0).bind fun v6 => some (aq.ret [AV.os 0 0], [(0, aj.arr 3 (aa) 0 false [v5, v6])]) else az [AV.d (aa).slice xs] else aV else none := by kernel_rfl
def yC (xs ys : af) : Int := bif decide (2 <= xs.length) && decide (2 <= ys.length) then (bif xs.getD (xs.length - 1) 0 == ys.getD (ys.length - 2) 0 then dg (xs.take (xs.length - 2)) (ys.take (ys.length - 2)) else 4) else 4
def o4 (xs ys : af) : af := gr (xs.take (xs.length - 2)) (ys.take (ys.length - 2)) ++ [xs.getD (xs.length - 2) 0, ys.getD (ys.length - 1) 0]
theorem tM {xs ys : af} (h : dg xs ys = 0) : (gr xs ys).length <= 6 := by
 unfold dg at h
 unfold gr
 cases h1 : ay xs != 0 with
 | true =>
  rw [h1, ai] at h
  rw [h] at h1
  cases h1
 | false =>
  rw [h1, ax] at h
  cases h2 : ay ys != 0 with
  | true =>
   rw [h2, ai] at h
   rw [h] at h2
   cases h2
  | false =>
   rw [h2, ax] at h
   cases h3 : ux xs ys with
   | true => simp
   | false =>
    rw [h3, ax] at h
    cases h4 : PN xs ys with
    | true => rw [h4, ai] at h; cases h
    | false =>
     rw [h4, ax] at h
     exact (eQ h).2.1
def abi : List AV -> LHp -> Tq
 | [.d zS xs, .d zS ys], [] => .br (decide (xs.length <= 2147483648 /\ ys.length <= 2147483648)) (yA (yC xs ys) (o4 xs ys)) .no
 | _, _ => .no
theorem UB : bg 151 (ao abi) := by
 have h1 := bD (d := 6) (l := []) Jb func151 call151
 refine aO fun args hs ae aH h' => ?_
 unfold abi at h'
 split at h'
 ·rename_i xs ys
  obtain ⟨hb, h2⟩ := Tq.br_no h'
  obtain ⟨b1, b2⟩ := aU hb
  have b1 : xs.length <= 2147483648 := b1
  have b2 : ys.length <= 2147483648 := b2
  refine h1.okO (.slice aa) (Eq.trans ?_ h2)
  refine Eq.trans (congrArg (cK _) (NY xs ys)) ?_
  unfold yA yC
  by_cases c1 : 2 <= xs.length
  ·by_cases c2 : 2 <= ys.length
   ·have d1 : decide (Int.ofNat xs.length >= 2) = true := aD (by simp only [aK]; omega)
    have d2 : decide (Int.ofNat ys.length >= 2) = true := aD (by simp only [aK]; omega)
    have w1 : i64.wrap (Int.ofNat xs.length - 2) = ((xs.length - 2 : Nat) : Int) := by simp only [aK]; rw [aI (by omega) (by omega)]; omega
    have w2 : i64.wrap (Int.ofNat ys.length - 2) = ((ys.length - 2 : Nat) : Int) := by simp only [aK]; rw [aI (by omega) (by omega)]; omega
    have w3 : i64.wrap (((xs.length - 2 : Nat) : Int) + 1) = ((xs.length - 1 : Nat) : Int) := by rw [aI (by omega) (by omega)]; omega
    have w4 : i64.wrap (((ys.length - 2 : Nat) : Int) + 1) = ((ys.length - 1 : Nat) : Int) := by rw [aI (by omega) (by omega)]; omega
    have g1 : idx xs ((xs.length - 1 : Nat) : Int) = some (xs.getD (xs.length - 1) 0) := cS (by omega)
    have g2 : idx ys ((ys.length - 2 : Nat) : Int) = some (ys.getD (ys.length - 2) 0) := cS (by omega)
    have g3 : idx xs ((xs.length - 2 : Nat) : Int) = some (xs.getD (xs.length - 2) 0) := cS (by omega)
    have g4 : idx ys ((ys.length - 1 : Nat) : Int) = some (ys.getD (ys.length - 1) 0) := cS (by omega)
    rw [d1, ai, d2, Bool.not_true, ax, w1, w2, w3, w4, g1, aB, g2, aB, aD c1, aD c2, Bool.and_self, ai]
    cases c3 : xs.getD (xs.length - 1) 0 == ys.getD (ys.length - 2) 0 with
    | false => rfl
    | true =>
     rw [Bool.not_true, ax, ai, B0 (by omega) (by omega), aB, B0 (by omega) (by omega), aB, Int.toNat_natCast, Int.toNat_natCast, aD (show (xs.take (xs.length - 2)).length <= 2147483648 /\ (ys.take (ys.length - 2)).length <= 2147483648 by rw [List.length_take, List.length_take]; omega), ai]
     cases c4 : dg (xs.take (xs.length - 2)) (ys.take (ys.length - 2)) == 0 with
     | false =>
      rw [ax, g3, aB, g4, aB]
      rfl
     | true =>
      have hl := tM (eq_of_beq c4)
      rw [ai, g3, aB, g4, aB, dI (show (gr (xs.take (xs.length - 2)) (ys.take (ys.length - 2))).length + [xs.getD (xs.length - 2) 0, ys.getD (ys.length - 1) 0].length <= lim by rw [show lim = 4294967296 from rfl]; simp only [List.length_cons, List.length_nil]; omega), aB]
      exact jG 3 (some (o4 xs ys))
   ·have d1 : decide (Int.ofNat xs.length >= 2) = true := aD (by simp only [aK]; omega)
    have d2 : decide (Int.ofNat ys.length >= 2) = false := bU (by simp only [aK]; omega)
    rw [d1, d2, bU c2, Bool.and_false]
    rfl
  ·have d1 : decide (Int.ofNat xs.length >= 2) = false := bU (by simp only [aK]; omega)
   rw [d1, bU c1, Bool.false_and]
   rfl
 ·cases h'
noncomputable def abj : FnE := b8 [.slice aa, .slice aa] (ao abi)
theorem GN : bg 151 abj := bf UB
def Jd (ag : bn) (name : ak) (xs : af) : Option (af) := bif Int.ofNat xs.length == 2 && (aT ag name 0 == 0 || aT ag name 0 == 1) then some (bif aT ag name 0 == 1 then [xs.getD 1 0, xs.getD 0 0] else xs) else none
def yD (ag : bn) (name : ak) (xs : af) : Bool := (Jd ag name xs).isSome
def dd (ag : bn) (name : ak) (xs : af) : af := (Jd ag name xs).getD []
def abk : List AV -> LHp -> Tq
 | [.d Y4 ((_, _, _, _, ag, _), _, _), .d .str name, .d zS xs], [] => .br (aF ag) (TW (yD ag name xs) (dd ag name xs)) .no
 | _, _ => .no
theorem UC : bg 213 (ao abk) := by
 have h1 := bD (d := 6) (l := []) Jc func213 call213
 refine aO fun args hs ae aH h' => ?_
 unfold abk at h'
 split at h'
 ·rename_i op nm ins out ag _ vs _ name xs
  obtain ⟨hs, h2⟩ := Tq.br_no h'
  have hlen := bM hs
  refine h1.okO (.slice aa) (Eq.trans ?_ (show (tI (Jd ag name xs)).run ah = some (ae, aH) from h2))
  refine Eq.trans (congrArg (cK _) (abh op nm ins out ag vs name xs)) ?_
  rw [aD (show ag.length <= 9223372036854775807 by omega), ai]
  unfold Jd
  cases c1 : Int.ofNat xs.length == 2 with
  | false => rfl
  | true =>
   have hl : xs.length = 2 := by
    have := eq_of_beq c1
    simp only [aK] at this
    omega
   have g0 : idx xs 0 = some (xs.getD 0 0) := cS (i := 0) (by omega)
   have g1 : idx xs 1 = some (xs.getD 1 0) := cS (i := 1) (by omega)
   rw [ai, g1, aB, g0, aB]
   cases aT ag name 0 == 0 <;> cases aT ag name 0 == 1 <;> rfl
 ·cases h'
noncomputable def agu : FnE := b8 [(Y4), .str, .slice aa] (ao abk)
theorem UD : bg 213 agu := bf UC
noncomputable def agv : Env := (((Is.add 213 agu).add 151 abj).add 148 Uz).add 77 (b8 [.slice aa, .slice aa] (ao NF))
theorem Je : agv.Good := (((dM.add UD).add GN).add yB).add (bf ym)
theorem abl (op nm : ak) (ins : List (ak)) (out : ak) (ag : bn) (vs : b5) : aC agv f152 6 [] [fD (op, nm, ins, out, ag, ()) vs] [] ah = (idx vs 0).bind fun v0 => bif aF ag then bif yD ag oI v0.2.2.1 then (idx vs 1).bind fun v3 => bif aF ag then bif yD ag oJ v3.2.2.1 then bif decide ((dd ag oI v0.2.2.1).length <= 2147483648 /\ (dd ag oJ v3.2.2.1).length <= 2147483648) then bif yC (dd ag oI v0.2.2.1) (dd ag oJ v3.2.2.1) == 0 then bif Int.ofNat vs.length == 3 then (idx vs 2).bind fun v9 => bif decide (List.length v9.2.2.1 <= 2147483648 /\ (o4 (dd ag oI v0.2.2.1) (dd ag oJ v3.2.2.1)).length <= 2147483648) then bif dg v9.2.2.1 (o4 (dd ag oI v0.2.2.1) (dd ag oJ v3.2.2.1)) == 0 then bif decide ((gr v9.2.2.1 (o4 (dd ag oI v0.2.2.1) (dd ag oJ v3.2.2.1))).length <= 9223372036854775807) then bif !gr v9.2.2.1 (o4 (dd ag oI v0.2.2.1) (dd ag oJ v3.2.2.1)) == o4 (dd ag oI v0.2.2.1) (dd ag oJ v3.2.2.1) then aV else az [AV.d (aa).slice (o4 (dd ag oI v0.2.2.1) (dd ag oJ v3.2.2.1))] else none else some (aq.panic 131 (dg v9.2.2.1 (o4 (dd ag oI v0.2.2.1) (dd ag oJ v3.2.2.1))), []) else none else az [AV.d (aa).slice (o4 (dd ag oI v0.2.2.1) (dd ag oJ v3.2.2.1))] else some (aq.panic 131 (yC (dd ag oI v0.2.2.1) (dd ag oJ v3.2.2.1)), []) else none else aV else none else (idx vs 1).bind fun v3 => aV else none := by kernel_rfl
theorem rv0 (u : Unit) : aC D2 f255 5 [(1, [0, 2, 3])] [.os 0 0] [(0, .arr 2 aa 0 false [])] ah = some (aq.ret [], [(0, aj.arr 2 (aa) 0 false [])]) := by kernel_rfl
theorem rv1 (a : Int) : aC D2 f255 5 [(1, [0, 2, 3])] [.os 0 0] [(0, .arr 2 aa 0 false [a])] ah = some (aq.ret [], [(0, aj.arr 2 (aa) 0 false [a])]) := by kernel_rfl
theorem rv2 (a b : Int) : aC D2 f255 5 [(1, [0, 2, 3])] [.os 0 0] [(0, .arr 2 aa 0 false [a, b])] ah = some (aq.ret [], [(0, aj.arr 2 (aa) 0 false [b, a])]) := by kernel_rfl
theorem rv3 (a b c : Int) : aC D2 f255 5 [(1, [0, 2, 3])] [.os 0 0] [(0, .arr 2 aa 0 false [a, b, c])] ah = some (aq.ret [], [(0, aj.arr 2 (aa) 0 false [c, b, a])]) := by kernel_rfl
theorem rv4 (a b c d : Int) : aC D2 f255 5 [(1, [0, 2, 3])] [.os 0 0] [(0, .arr 2 aa 0 false [a, b, c, d])] ah = some (aq.ret [], [(0, aj.arr 2 (aa) 0 false [d, c, b, a])]) := by kernel_rfl
theorem rv5 (a b c d e : Int) : aC D2 f255 5 [(1, [0, 2, 3])] [.os 0 0] [(0, .arr 2 aa 0 false [a, b, c, d, e])] ah = some (aq.ret [], [(0, aj.arr 2 (aa) 0 false [e, d, c, b, a])]) := by kernel_rfl
theorem rv6 (a b c d e f : Int) : aC D2 f255 5 [(1, [0, 2, 3])] [.os 0 0] [(0, .arr 2 aa 0 false [a, b, c, d, e, f])] ah = some (aq.ret [], [(0, aj.arr 2 (aa) 0 false [f, e, d, c, b, a])]) := by kernel_rfl
def eX : ak := oI
def eY : ak := oJ
def bN (vs : b5) (i : Nat) : af := match vs[i]? with
 | some v => v.2.2.1
 | none => []
theorem nS {α : Type} {vs : b5} {i : Nat} (h : i < vs.length) (f : (Y3).den -> Option α) : ∃ v, vs[i]? = some v /\ bN vs i = v.2.2.1 /\ (idx vs ((i : Nat) : Int)).bind f = f v := by
 refine ⟨vs[i], List.getElem?_eq_getElem h, by unfold bN; rw [List.getElem?_eq_getElem h], ?_⟩
 unfold idx
 rw [if_pos (by omega), Int.toNat_natCast, List.getElem?_eq_getElem h]
 rfl
def tO (vs : b5) : Bool := vs.all fun v => decide (List.length v.2.2.1 <= 2147483648)
theorem p5 {vs : b5} (h : tO vs = true) (i : Nat) : (bN vs i).length <= 2147483648 := by
 unfold bN
 cases hv : vs[i]? with
 | none => simp
 | some v => exact aU (List.all_eq_true.1 h v (List.mem_of_getElem? hv))
def Jf (ag : bn) (vs : b5) : Int := yC (dd ag eX (bN vs 0)) (dd ag eY (bN vs 1))
def o5 (ag : bn) (vs : b5) : af := o4 (dd ag eX (bN vs 0)) (dd ag eY (bN vs 1))
def UE (ag : bn) (vs : b5) : Int := bif yD ag eX (bN vs 0) then (bif yD ag eY (bN vs 1) then (bif Jf ag vs == 0 then (bif Int.ofNat vs.length == 3 then (bif dg (bN vs 2) (o5 ag vs) == 0 then (bif gr (bN vs 2) (o5 ag vs) == o5 ag vs then 0 else 4) else dg (bN vs 2) (o5 ag vs)) else 0) else Jf ag vs) else 4) else 4
def abm : List AV -> LHp -> Tq
 | [.d Y4 ((_, _, _, _, ag, _), vs, _)], [] => .br (aF ag) (.br (decide (2 <= vs.length)) (.br (tO vs) (yA (UE ag vs) (o5 ag vs)) .no) .no) .no
 | _, _ => .no
theorem B2 {ag : bn} {name : ak} {xs : af} (h : yD ag name xs = true) : (dd ag name xs).length = 2 := by
 unfold yD Jd at h
 unfold dd Jd
 cases c : Int.ofNat xs.length == 2 && (aT ag name 0 == 0 || aT ag name 0 == 1) with
 | false => rw [c] at h; cases h
 | true =>
  rw [ba] at c
  have := eq_of_beq c.1
  simp only [aK] at this
  rw [ai]
  cases aT ag name 0 == 1 with
  | true => rfl
  | false => show xs.length = 2; omega
theorem B3 (c : Int) (l : af) : (yA c l).run ah = bif c == 0 then (some (.ret [.d (.slice aa) l], []) : Option (aq × LHp)) else some (.panic 131 c, []) := rfl
theorem UF : bg 152 (ao abm) := by
 have h1 := bD (d := 6) (l := []) Je func152 call152
 refine aO fun args hs ae aH h' => ?_
 unfold abm at h'
 split at h'
 ·rename_i op nm ins out ag _ vs _
  obtain ⟨hs, h2⟩ := Tq.br_no h'
  obtain ⟨hv, h3⟩ := Tq.br_no h2
  obtain ⟨hw, h4⟩ := Tq.br_no h3
  have hv : 2 <= vs.length := aU hv
  have b0 := p5 hw 0
  have b1 := p5 hw 1
  have b2 := p5 hw 2
  refine h1.okC ((abl op nm ins out ag vs).trans (Eq.trans ?_ h4))
  rw [B3]
  obtain ⟨v0, x0, y0, z0⟩ := nS (α := aq × LHp) (vs := vs) (i := 0) (by omega) (fun v => none)
  obtain ⟨v1, x1, y1, z1⟩ := nS (α := aq × LHp) (vs := vs) (i := 1) (by omega) (fun v => none)
  have i0 : idx vs 0 = some v0 := by unfold idx; rw [if_pos (by omega)]; exact x0
  have i1 : idx vs 1 = some v1 := by unfold idx; rw [if_pos (by omega)]; exact x1
  have ea : (oI : ak) = eX := rfl
  have eb : (oJ : ak) = eY := rfl
  rw [i0, aB, i1, aB, hs, ai, ea, eb, ← y0, ← y1]
  unfold UE
  cases c1 : yD ag eX (bN vs 0) with
  | false => rfl
  | true =>
   rw [ai, ai, ai]
   cases c2 : yD ag eY (bN vs 1) with
   | false => rfl
   | true =>
    have l1 := B2 c1
    have l2 := B2 c2
    rw [ai, ai, aD (show (dd ag eX (bN vs 0)).length <= 2147483648 /\ (dd ag eY (bN vs 1)).length <= 2147483648 by omega), ai]
    have ep : yC (dd ag eX (bN vs 0)) (dd ag eY (bN vs 1)) = Jf ag vs := rfl
    have el : o4 (dd ag eX (bN vs 0)) (dd ag eY (bN vs 1)) = o5 ag vs := rfl
    have hel : (o5 ag vs).length <= 2147483648 \/ (Jf ag vs == 0) = false := by
     cases hq : Jf ag vs == 0 with
     | false => exact .inr rfl
     | true =>
      left
      rw [← el]
      unfold o4
      rw [List.length_append]
      have : (gr ((dd ag eX (bN vs 0)).take ((dd ag eX (bN vs 0)).length - 2)) ((dd ag eY (bN vs 1)).take ((dd ag eY (bN vs 1)).length - 2))).length <= 6 := by
       refine tM ?_
       have Hs := eq_of_beq hq
       rw [← ep] at Hs
       unfold yC at Hs
       rw [aD (show 2 <= (dd ag eX (bN vs 0)).length by omega), aD (show 2 <= (dd ag eY (bN vs 1)).length by omega), Bool.and_self, ai] at Hs
       revert Hs
       cases (dd ag eX (bN vs 0)).getD ((dd ag eX (bN vs 0)).length - 1) 0 == (dd ag eY (bN vs 1)).getD ((dd ag eY (bN vs 1)).length - 2) 0 with
       | true => exact id
       | false => intro h; cases h
      simp only [List.length_cons, List.length_nil]
      omega
    rw [ep, el]
    cases c3 : Jf ag vs == 0 with
    | false => rw [ax, ax, c3]; rfl
    | true =>
     rw [c3] at hel
     have hel : (o5 ag vs).length <= 2147483648 := hel.resolve_right (by decide)
     rw [ai, ai]
     cases c4 : Int.ofNat vs.length == 3 with
     | false => rfl
     | true =>
      have hv3 : 2 < vs.length := by
       have := eq_of_beq c4
       simp only [aK] at this
       omega
      obtain ⟨v2, x2, y2, z2⟩ := nS (α := aq × LHp) (vs := vs) (i := 2) hv3 (fun v => none)
      have i2 : idx vs 2 = some v2 := by unfold idx; rw [if_pos (by omega)]; exact x2
      rw [ai, ai, i2, aB, ← y2, aD (show (bN vs 2).length <= 2147483648 /\ (o5 ag vs).length <= 2147483648 from ⟨b2, hel⟩), ai]
      cases c5 : dg (bN vs 2) (o5 ag vs) == 0 with
      | false => rw [ax, ax, c5]; rfl
      | true =>
       have h6 := tM (eq_of_beq c5)
       rw [ai, ai, aD (show (gr (bN vs 2) (o5 ag vs)).length <= 9223372036854775807 by omega), ai]
       cases gr (bN vs 2) (o5 ag vs) == o5 ag vs <;> rfl
 ·cases h'
noncomputable def agw : FnE := b8 [(Y4)] (ao abm)
theorem UG : bg 152 agw := bf UF
def abn : List AV -> LHp -> Tq
 | [.os 0 0], [(0, .arr 2 zI 0 false xs)] => .br (decide (xs.length <= 6)) (.leaf (.ret []) [(0, .arr 2 aa 0 false xs.reverse)]) .no
 | _, _ => .no
theorem UH : bg 255 (ao abn) := by
 have h1 := bD (d := 5) (l := [(1, [0, 2, 3])]) kC func255 call255
 refine aO fun args hs ae aH h' => ?_
 unfold abn at h'
 split at h'
 ·rename_i xs
  obtain ⟨hb, h2⟩ := Tq.br_no h'
  have hb : List.length xs <= 6 := aU hb
  match xs, hb, h2 with
  | [], _, h2 => exact h1.okC ((rv0 ()).trans h2)
  | [a], _, h2 => exact h1.okC ((rv1 a).trans h2)
  | [a, b], _, h2 => exact h1.okC ((rv2 a b).trans h2)
  | [a, b, c], _, h2 => exact h1.okC ((rv3 a b c).trans h2)
  | [a, b, c, d], _, h2 => exact h1.okC ((rv4 a b c d).trans h2)
  | [a, b, c, d, e], _, h2 => exact h1.okC ((rv5 a b c d e).trans h2)
  | [a, b, c, d, e, f], _, h2 => exact h1.okC ((rv6 a b c d e f).trans h2)
  | _ :: _ :: _ :: _ :: _ :: _ :: _ :: _, hb, _ => simp only [List.length_cons] at hb; omega
 ·cases h'
noncomputable def m5 : Env := (((D2.add 210 (ao aat)).add 255 (ao abn)).add 215 TP).add 212 (ao TN)
theorem Jg : m5.Good := (((kC.add TV).add UH).add yh).add GB
theorem abo (op nm : ak) (ins : List (ak)) (out : ak) (ag : bn) (vs : b5) (xs : af) : aC m5 f217 6 [(6, [1, 6, 7, 24, 25, 26])] [fD (op, nm, ins, out, ag, ()) vs, .d (.slice aa) xs] [] ah = bif decide (0 <= Int.ofNat xs.length /\ Int.ofNat xs.length <= 2147483648) then bif decide ((gy (Int.ofNat xs.length).toNat).length <= 6) then bif aF ag then bif decide ((gy (Int.ofNat xs.length).toNat).reverse.length <= 2147483648) then bif cJ (Int.ofNat xs.length) 0 (i64.wrap (Int.ofNat xs.length - 1)) (al ag xQ (gy (Int.ofNat xs.length).toNat).reverse) then (hlp m5 fG) yg _ { fr := aw 6 [(1, AV.d (aa).slice xs), (6, AV.d (aa).slice (al ag xQ (gy (Int.ofNat xs.length).toNat).reverse)), (7, AV.nils), (24, AV.d (aa).slice (al ag xQ (gy (Int.ofNat xs.length).toNat).reverse)), (25, I (Int.ofNat (al ag xQ (gy (Int.ofNat xs.length).toNat).reverse).length)), (26, I 0)], hp := [], nx := 0 } (aQ 0 (aX m5 fG [6] (hlp m5 fG) (cR (cR (cR (cR (cR (cR Ng)))))) (aZ prog 0 f217.results.toList ah))) else aV else none else none else none else none := (bq [6] fG rfl).trans (by obtain ⟨hl, h⟩ := bc m5 fG; rw [h]; kernel_rfl)
noncomputable def KTp : AEx -> LSt -> Option (aq × LHp) := (aQ 0 (aX m5 fG [6] (hlp m5 fG) (cR (cR (cR (cR (cR (cR Ng)))))) (aZ prog 0 f217.results.toList ah)))
def wu (xs l : af) (i : Int) : LSt := { fr := aw 6 [(1, .d (.slice aa) xs), (6, .d (.slice aa) l), (7, AV.nils), (24, .d (.slice aa) l), (25, I (Int.ofNat l.length)), (26, I i)], hp := [], nx := 0 }
def B4 (o xs l : af) (i : Int) : LSt := { fr := aw 6 [(1, .d (.slice aa) xs), (6, .d (.slice aa) l), (7, AV.os 0 0), (24, .d (.slice aa) l), (25, I (Int.ofNat l.length)), (26, I i)], hp := [(0, .arr 3 aa 0 false o)], nx := 1 }
theorem NZ (xs l : af) (i : Int) (n : Nat) {R : Type} (k : AEx -> LSt -> Option R) : lp m5 fG yg (n + 1) (wu xs l i) k = bif decide (i < Int.ofNat l.length) then (idx l i).bind fun v1 => (if (0 : Int) <= 0 /\ 0 <= i /\ i <= Int.ofNat l.length then some (List.drop 0 (List.take i.toNat l)) else none).bind fun v2 => bif decide (v2.length <= 9223372036854775807) then bif !!iY v2 v1 then k (AEx.panic 131 4) { fr := aw 6 [(1, AV.d (aa).slice xs), (6, AV.d (aa).slice l), (7, AV.nils), (8, I i), (9, I v1), (24, AV.d (aa).slice l), (25, I (Int.ofNat l.length)), (26, I i), (27, B true), (28, I i), (29, AV.ip (aa) v1), (30, I v1), (31, AV.d (aa).slice l), (32, I i), (33, AV.d (aa).slice v2), (34, I v1), (35, B (iY v2 v1)), (36, B !iY v2 v1)], hp := [], nx := 0 } else (idx xs v1).bind fun v5 => lp m5 fG yg n (B4 [v5] xs l (i64.wrap (i + 1))) k else none else k (AEx.exit 0) { fr := aw 6 [(1, AV.d (aa).slice xs), (6, AV.d (aa).slice l), (7, AV.nils), (24, AV.d (aa).slice l), (25, I (Int.ofNat l.length)), (26, I i), (27, B false)], hp := [], nx := 0 } := by kernel_rfl
theorem N0 (v : Int) (o xs l : af) (i : Int) (n : Nat) {R : Type} (k : AEx -> LSt -> Option R) : lp m5 fG yg (n + 1) (B4 (v :: o) xs l i) k = bif decide (i < Int.ofNat l.length) then (idx l i).bind fun v1 => (if (0 : Int) <= 0 /\ 0 <= i /\ i <= Int.ofNat l.length then some (List.drop 0 (List.take i.toNat l)) else none).bind fun v2 => bif decide (v2.length <= 9223372036854775807) then bif !!iY v2 v1 then k (AEx.panic 131 4) { fr := aw 6 [(1, AV.d (aa).slice xs), (6, AV.d (aa).slice l), (7, AV.os 0 0), (8, I i), (9, I v1), (24, AV.d (aa).slice l), (25, I (Int.ofNat l.length)), (26, I i), (27, B true), (28, I i), (29, AV.ip (aa) v1), (30, I v1), (31, AV.d (aa).slice l), (32, I i), (33, AV.d (aa).slice v2), (34, I v1), (35, B (iY v2 v1)), (36, B !iY v2 v1)], hp := [(0, aj.arr 3 (aa) 0 false (v :: o))], nx := 1 } else (idx xs v1).bind fun v5 => (app (v :: o) [v5]).bind fun v6 => lp m5 fG yg n (B4 v6 xs l (i64.wrap (i + 1))) k else none else k (AEx.exit 0) { fr := aw 6 [(1, AV.d (aa).slice xs), (6, AV.d (aa).slice l), (7, AV.os 0 0), (24, AV.d (aa).slice l), (25, I (Int.ofNat l.length)), (26, I i), (27, B false)], hp := [(0, aj.arr 3 (aa) 0 false (v :: o))], nx := 1 } := by kernel_rfl
def Jh : List Int -> List Int -> Bool
 | _, [] => true
 | pre, p :: r => !iY pre p && Jh (pre ++ [p]) r
def tpN (xs : af) (s : af × af) (p : Int) : Nx (af × af) (aq × LHp) := bif !iY s.1 p then .go (s.1 ++ [p], s.2 ++ [xs.getD p.toNat 0]) else .stop (some (.panic 131 4, []))
def ajs (xs l : af) (i : Int) (s : af × af) : LSt := match s.2 with
 | [] => wu xs l i
 | v :: o => B4 (v :: o) xs l i
theorem GO (xs : af) : ∀ (l pre o : af), cg (tpN xs) (fun s => gq 3 s.2) l (pre, o) = bif Jh pre l then gq 3 (o ++ l.map fun p => xs.getD p.toNat 0) else some (.panic 131 4, [])
 | [], pre, o => by rw [cg, Jh, List.map_nil, List.append_nil]; rfl
 | p :: l, pre, o => by
  have e : tpN xs (pre, o) p = bif !iY pre p then .go (pre ++ [p], o ++ [xs.getD p.toNat 0]) else .stop (some (.panic 131 4, [])) := rfl
  rw [cg, e, Jh]
  cases iY pre p with
  | true => rfl
  | false =>
   show cg (tpN xs) _ l _ = _
   rw [GO xs l, List.append_assoc]
   rfl
theorem abp {xs l : af} (hx : xs.length <= 2147483648) (hl : l.length <= 2147483648) (hp : ∀ p ∈ l, 0 <= p /\ p < (xs.length : Int)) : lp m5 fG yg fu (wu xs l 0) KTp = bif Jh [] l then gq 3 (l.map fun p => xs.getD p.toNat 0) else some (.panic 131 4, []) := by
 have hm : maxLen = 9223372036854775807 := by decide
 refine (cq (xs := l) (T := fun n s => lp m5 fG yg n s KTp) (st := fun (i : Int) (s : af × af) => ajs xs l i s) (f := tpN xs) (fin := fun (s : af × af) => gq 3 s.2) (fun (i : Nat) (s : af × af) => s.1 = l.take i /\ s.2.length = i) (by omega) ?_ ?_ (a := ([], [])) ⟨rfl, rfl⟩).trans (GO xs l [] [])
 ·rintro i ⟨pre, o⟩ p n ⟨hI, CR⟩ hi gx gi hw hd
  have hI : pre = l.take i := hI
  have CR : o.length = i := CR
  subst hI
  obtain ⟨p0, p1⟩ := hp p (List.mem_of_getElem? gx)
  have gp : idx xs p = some (xs.getD p.toNat 0) := Eh p0 p1
  have et : l.take (i + 1) = l.take i ++ [p] := by
   rw [List.getElem?_eq_getElem hi] at gx
   rw [← Option.some.inj gx]
   exact (List.take_append_getElem hi).symm
  have e : tpN xs (l.take i, o) p = bif !iY (l.take i) p then .go (l.take i ++ [p], o ++ [xs.getD p.toNat 0]) else .stop (some (.panic 131 4, [])) := rfl
  have hll : (l.take i).length <= 9223372036854775807 := by rw [List.length_take]; omega
  have PD := B0 (xs := l) (k := (i : Int)) (by omega) (by omega)
  rw [Int.toNat_natCast] at PD
  cases o with
  | nil =>
   have hs := NZ xs l (i : Int) n KTp
   rw [hd, ai, gi, aB, Int.toNat_natCast, PD, aB, aD hll, ai, hw] at hs
   cases c1 : iY (l.take i) p with
   | true =>
    rw [c1, Bool.not_true, ax] at e
    rw [c1] at hs
    exact .inr ⟨_, e, hs.trans (by show _ = _; kernel_rfl)⟩
   | false =>
    rw [c1, Bool.not_false, ai] at e
    rw [c1, Bool.not_false, Bool.not_true, ax, gp, aB] at hs
    exact .inl ⟨_, e, ⟨et.symm, by rw [List.length_append, CR]; rfl⟩, hs⟩
  | cons v o =>
   have j1 : (v :: o).length + [xs.getD p.toNat 0].length <= lim := by rw [CR, List.length_singleton, show lim = 4294967296 from rfl]; omega
   have hs := N0 v o xs l (i : Int) n KTp
   rw [hd, ai, gi, aB, Int.toNat_natCast, PD, aB, aD hll, ai, hw] at hs
   cases c1 : iY (l.take i) p with
   | true =>
    rw [c1, Bool.not_true, ax] at e
    rw [c1] at hs
    exact .inr ⟨_, e, hs.trans (by show _ = _; kernel_rfl)⟩
   | false =>
    rw [c1, Bool.not_false, ai] at e
    rw [c1, Bool.not_false, Bool.not_true, ax, gp, aB, dI j1, aB] at hs
    exact .inl ⟨_, e, ⟨et.symm, by rw [List.length_append, CR]; rfl⟩, hs⟩
 ·rintro ⟨pre, o⟩ n ⟨_, _⟩ hd
  cases o with
  | nil =>
   show lp _ _ _ (n + 1) (wu xs l (l.length : Int)) _ = _
   rw [NZ, hd, ax]
   show _ = _
   kernel_rfl
  | cons v o =>
   show lp _ _ _ (n + 1) (B4 (v :: o) xs l (l.length : Int)) _ = _
   rw [N0, hd, ax]
   show _ = _
   kernel_rfl
theorem agy (xs l : af) : hlp m5 fG yg (aq × LHp) (wu xs l 0) KTp = lp m5 fG yg fu (wu xs l 0) KTp := rfl
def B5 : ak := xQ
def Eu (ag : bn) (r : Nat) : af := al ag B5 (gy r).reverse
def UI (ag : bn) (xs : af) : Bool := cJ (Int.ofNat xs.length) 0 (i64.wrap (Int.ofNat xs.length - 1)) (Eu ag xs.length) && Jh [] (Eu ag xs.length)
def agz (ag : bn) (xs : af) : af := (Eu ag xs.length).map fun p => xs.getD p.toNat 0
def abq : List AV -> LHp -> Tq
 | [.d Y4 ((_, _, _, _, ag, _), _, _), .d zS xs], [] => .br (aF ag) (.br (decide (xs.length <= 6)) (TW (UI ag xs) (agz ag xs)) .no) .no
 | _, _ => .no
theorem yE {c lo hi : Int} {l : af} (h : cJ c lo hi l = true) : ∀ p ∈ l, lo <= p /\ p <= hi := by
 unfold cJ cB at h
 rw [ba] at h
 intro p hp
 have := List.all_eq_true.1 h.1 p hp
 simp only [ba, decide_eq_true_eq] at this
 exact this
theorem UJ : bg 217 (ao abq) := by
 have h1 := bD (d := 6) (l := [(6, [1, 6, 7, 24, 25, 26])]) Jg func217 call217
 refine aO fun args hs ae aH h' => ?_
 unfold abq at h'
 split at h'
 ·rename_i op nm ins out ag _ vs _ xs
  obtain ⟨hs, h2⟩ := Tq.br_no h'
  obtain ⟨hb, h3⟩ := Tq.br_no h2
  have hb : xs.length <= 6 := aU hb
  refine h1.okO (.slice aa) (Eq.trans ?_ h3)
  refine Eq.trans (congrArg (cK _) (abo op nm ins out ag vs xs)) ?_
  have en : (Int.ofNat xs.length).toNat = xs.length := rfl
  have es : al ag xQ (gy xs.length).reverse = Eu ag xs.length := rfl
  have hr : (gy xs.length).reverse.length <= 2147483648 := by rw [List.length_reverse, mL]; omega
  have hP : (Eu ag xs.length).length <= 2147483648 := jE hs B5 hr
  rw [aD (show 0 <= Int.ofNat xs.length /\ Int.ofNat xs.length <= 2147483648 from ⟨by simp only [aK]; omega, by simp only [aK]; omega⟩), ai, en, aD (show (gy xs.length).length <= 6 by rw [mL]; exact hb), ai, hs, ai, aD hr, ai, es]
  show _ = (bif UI ag xs then _ else _)
  unfold UI
  cases hq : cJ (Int.ofNat xs.length) 0 (i64.wrap (Int.ofNat xs.length - 1)) (Eu ag xs.length) with
  | false => rfl
  | true =>
   have w : i64.wrap (Int.ofNat xs.length - 1) = (xs.length : Int) - 1 := by simp only [aK]; exact aI (by omega) (by omega)
   have C0 := yE hq
   rw [w] at C0
   have h9 := (agy xs (Eu ag xs.length)).trans (abp (by omega) hP (fun p hp => ⟨(C0 p hp).1, by have := (C0 p hp).2; omega⟩))
   rw [ai, Bool.true_and]
   refine (congrArg (cK (.slice aa)) h9).trans ?_
   rw [BN, jD]
   rfl
 ·cases h'
noncomputable def agA : FnE := b8 [(Y4), .slice aa] (ao abq)
theorem UK : bg 217 agA := bf UJ
end
end Go.Proofs.XRT
set_option maxRecDepth 100000
set_option maxHeartbeats 4000000
namespace Go.Proofs.XRT
open Go.Vm Go Go.Shelf Tryz IntKind
noncomputable section
def N1 : Ren := ⟨fun k => match k with | 23 => 259 | _ => 0, fun k => match k with | 0 => 0 | 3 => 3 | 4 => 4 | 22 => 31 | _ => 0, fun k => k⟩
theorem UL : Lays2.n23 prog N1 := by
 constructor
 ·exact bO
 ·exact func259
 ·exact Tryz.underlying0
 ·exact Tryz.isAgg0
 ·exact Tryz.sizeOf0
 ·exact Tryz.zeroValue0
 ·exact Tryz.underlying3
 ·exact Tryz.isAgg3
 ·exact Tryz.sizeOf3
 ·exact Tryz.zeroValue3
 ·exact Tryz.underlying4
 ·exact Tryz.isAgg4
 ·exact Tryz.sizeOf4
 ·exact Tryz.zeroValue4
 ·exact Tryz.underlying31
 ·exact Tryz.isAgg31
 ·exact Tryz.sizeOf31
 ·exact Tryz.zeroValue31
 ·rfl
def ga : Ren := ⟨fun k => match k with | 21 => 260 | 27 => 280 | 28 => 281 | 35 => 298 | 39 => 258 | _ => 0, fun k => match k with | 0 => 0 | 3 => 3 | 4 => 4 | 22 => 31 | _ => 0, fun k => k⟩
theorem o6 : Lays2.n21 prog ga := by
 constructor
 ·exact bO
 ·exact func260
 ·exact func280
 ·exact func281
 ·exact func298
 ·exact func258
 ·exact Tryz.underlying0
 ·exact Tryz.isAgg0
 ·exact Tryz.sizeOf0
 ·exact Tryz.zeroValue0
 ·exact Tryz.underlying3
 ·exact Tryz.isAgg3
 ·exact Tryz.sizeOf3
 ·exact Tryz.zeroValue3
 ·exact Tryz.underlying4
 ·exact Tryz.isAgg4
 ·exact Tryz.sizeOf4
 ·exact Tryz.zeroValue4
 ·exact Tryz.underlying31
 ·exact Tryz.isAgg31
 ·exact Tryz.sizeOf31
 ·exact Tryz.zeroValue31
 ·rfl
def Ew : Ren := ⟨fun k => match k with | 125 => 243 | 128 => 273 | 129 => 274 | 189 => 188 | 215 => 290 | 216 => 270 | 257 => 242 | 294 => 264 | 295 => 265 | 296 => 266 | 297 => 267 | 298 => 268 | 299 => 269 | 300 => 271 | 301 => 272 | 328 => 285 | 329 => 286 | 330 => 287 | 331 => 288 | 332 => 289 | 343 => 302 | _ => 0, fun k => match k with | 0 => 0 | 3 => 3 | 4 => 4 | 5 => 5 | 9 => 9 | 28 => 31 | 46 => 165 | 51 => 199 | 53 => 205 | 131 => 86 | 182 => 252 | 183 => 253 | 218 => 269 | 222 => 158 | 228 => 279 | 229 => 118 | _ => 0, fun k => k⟩
theorem GP : Lays.n189 prog Ew := by
 constructor
 ·exact bO
 ·exact func243
 ·exact func273
 ·exact func274
 ·exact func188
 ·exact func290
 ·exact func270
 ·exact func242
 ·exact func264
 ·exact func265
 ·exact func266
 ·exact func267
 ·exact func268
 ·exact func269
 ·exact func271
 ·exact func272
 ·exact func285
 ·exact func286
 ·exact func287
 ·exact func288
 ·exact func289
 ·exact func302
 ·exact Tryz.underlying0
 ·exact Tryz.isAgg0
 ·exact Tryz.sizeOf0
 ·exact Tryz.zeroValue0
 ·exact Tryz.underlying3
 ·exact Tryz.isAgg3
 ·exact Tryz.sizeOf3
 ·exact Tryz.zeroValue3
 ·exact Tryz.underlying4
 ·exact Tryz.isAgg4
 ·exact Tryz.sizeOf4
 ·exact Tryz.zeroValue4
 ·exact Tryz.underlying5
 ·exact Tryz.isAgg5
 ·exact Tryz.sizeOf5
 ·exact Tryz.zeroValue5
 ·exact Tryz.underlying9
 ·exact Tryz.isAgg9
 ·exact Tryz.sizeOf9
 ·exact Tryz.zeroValue9
 ·exact Tryz.underlying31
 ·exact Tryz.isAgg31
 ·exact Tryz.sizeOf31
 ·exact Tryz.zeroValue31
 ·exact Tryz.underlying165
 ·exact Tryz.isAgg165
 ·exact Tryz.sizeOf165
 ·exact Tryz.zeroValue165
 ·exact Tryz.underlying199
 ·exact Tryz.isAgg199
 ·exact Tryz.sizeOf199
 ·exact Tryz.zeroValue199
 ·exact Tryz.underlying205
 ·exact Tryz.isAgg205
 ·exact Tryz.sizeOf205
 ·exact Tryz.zeroValue205
 ·exact Tryz.underlying86
 ·exact Tryz.isAgg86
 ·exact Tryz.sizeOf86
 ·exact Tryz.zeroValue86
 ·exact Tryz.underlying252
 ·exact Tryz.isAgg252
 ·exact Tryz.sizeOf252
 ·exact Tryz.zeroValue252
 ·exact Tryz.underlying253
 ·exact Tryz.isAgg253
 ·exact Tryz.sizeOf253
 ·exact Tryz.zeroValue253
 ·exact Tryz.underlying269
 ·exact Tryz.isAgg269
 ·exact Tryz.sizeOf269
 ·exact Tryz.zeroValue269
 ·exact Tryz.underlying158
 ·exact Tryz.isAgg158
 ·exact Tryz.sizeOf158
 ·exact Tryz.zeroValue158
 ·exact Tryz.underlying279
 ·exact Tryz.isAgg279
 ·exact Tryz.sizeOf279
 ·exact Tryz.zeroValue279
 ·exact Tryz.underlying118
 ·exact Tryz.isAgg118
 ·exact Tryz.sizeOf118
 ·exact Tryz.zeroValue118
def Ex : Ren := ⟨fun k => match k with | 112 => 258 | _ => 0, fun k => match k with | 0 => 0 | 3 => 3 | 4 => 4 | 28 => 31 | _ => 0, fun k => k⟩
theorem GQ : Lays.n112 prog Ex := by
 constructor
 ·exact bO
 ·exact func258
 ·exact Tryz.underlying0
 ·exact Tryz.isAgg0
 ·exact Tryz.sizeOf0
 ·exact Tryz.zeroValue0
 ·exact Tryz.underlying3
 ·exact Tryz.isAgg3
 ·exact Tryz.sizeOf3
 ·exact Tryz.zeroValue3
 ·exact Tryz.underlying4
 ·exact Tryz.isAgg4
 ·exact Tryz.sizeOf4
 ·exact Tryz.zeroValue4
 ·exact Tryz.underlying31
 ·exact Tryz.isAgg31
 ·exact Tryz.sizeOf31
 ·exact Tryz.zeroValue31
end
end Go.Proofs.XRT
namespace Go.Vm
theorem mN {w : World} {im : Nat -> Prop} : ∀ {cs : List Value} {xs : af}, aR (aM w im (.int .i64)) cs xs ↔ cs = xs.map (Value.int .i64)
 | cs, [] => Iff.rfl
 | cs, x :: xs => by
  simp only [aR, aM, List.map_cons]
  constructor
  ·rintro ⟨c1, c2, rfl, rfl, h⟩
   rw [(mN (w := w) (im := im)).1 h]; rfl
  ·intro h
   exact ⟨[.int .i64 x], xs.map (.int .i64), h, rfl, (mN (w := w) (im := im)).2 rfl⟩
structure tP (w w' : World) (b : Nat) (T : TypeId) (ys : List Int) (b' cap' : Nat) : Prop where
 os : w'.os = w.os
 tape : w'.tape = w.tape
 output : w'.output = w.output
 grow : w.heap.size <= w'.heap.size
 old : ∀ c, c < w.heap.size -> c ≠ b -> w'.heap[c]? = w.heap[c]?
 place : (b' = b /\ b < w.heap.size) \/ (w.heap.size <= b' /\ b' < w'.heap.size)
 row : ∃ cells : Array Value, w'.heap[b']? = some (.cells cells T (0, 0)) /\ ys.length <= cap' /\ cap' <= maxLen /\ cells.size = cap' /\ cells.toList.take ys.length = ys.map (Value.int .i64)
theorem mO {W w' : World} {im : Nat -> Prop} {μ : Mu} {hs aH : LHp} {T : TypeId} {m m' q : Nat} {xs ys : af} {b b' cap cap' : Nat}
  (himLt : ∀ b, im b -> b < W.heap.size) (hinv : jR W im μ (aA hs)) (h0 : aA hs q = some (.arr T (.int .i64) m false xs)) (hμ : μ q = .row b cap \/ (b = W.heap.size /\ m < m'))
  (h1 : aA aH q = some (.arr T (.int .i64) m' false ys)) (hsame : ∀ o, o ≠ q -> aA aH o = aA hs o) (ht : tP W w' b T ys b' cap') (hv : (m' = m /\ ys.length = xs.length /\ b' = b /\ cap' = cap) \/ m < m') :
  dc W im μ (aA hs) w' im (fun o => if o = q then .row b' cap' else μ o) (aA aH) := by
 have k1 : ∀ c, im c -> c ≠ b := fun c hc e => by
  rcases hμ with h | ⟨h, _⟩
  ·exact (hinv.sep q b (by rw [h]; rfl)).1 (e ▸ hc)
  grind
 have k2 : ∀ c, c < W.heap.size -> (∀ o, (μ o).blk ≠ some c) -> c ≠ b := fun c hc hn e => by
  rcases hμ with h | ⟨h, _⟩
  ·exact hn q (by rw [h, e]; rfl)
  ·omega
 have k3 : b < W.heap.size -> (μ q).blk = some b := fun bJ => by
  rcases hμ with h | ⟨h, _⟩
  ·rw [h]; rfl
  ·omega
 have k4 : ∀ o c, o ≠ q -> (μ o).blk = some c -> c ≠ b := fun o c ho hc e => by
  rcases hμ with h | ⟨h, _⟩
  ·exact ho (hinv.inj o q c hc (by rw [h, e]; rfl))
  ·have := (hinv.sep o c hc).2; omega
 have m0 : (fun o => if o = q then Pl.row b' cap' else μ o) q = .row b' cap' := if_pos rfl
 have j2 : ∀ o, o ≠ q -> (fun o => if o = q then Pl.row b' cap' else μ o) o = μ o := fun o h => if_neg h
 generalize (fun o => if o = q then Pl.row b' cap' else μ o) = bh at m0 j2
 have hfob : ∀ o ob, aA hs o = some ob -> ∃ ct, aA aH o = some ct /\ cA ob (μ o) ct (bh o) := by
  intro o ob ho
  by_cases e : o = q
  ·subst e
   rw [h0] at ho
   cases ho
   refine ⟨_, h1, m', false, ys, rfl, ?_⟩
   grind
  grind [cA.refl]
 have hplt : b' < w'.heap.size := by
  rcases ht.place with ⟨g1, g2⟩ | ⟨_, g⟩
  ·have := ht.grow; omega
  ·exact g
 have ev : Ev W im μ (aA hs) w' im bh (aA aH) := ⟨fun _ h => h, fun c hc => ht.old c (himLt c hc) (k1 c hc), hfob⟩
 refine ⟨ht.os, ht.tape, ht.output, ht.grow, fun c hc hn => ht.old c hc (k2 c hc hn), fun _ h => h, fun _ h => .inl h, fun c hc => by have := himLt c hc; have := ht.grow; omega, fun o c hc => ?_, hfob, ⟨fun o c hc => ?_, fun o o' c h2 h3 => ?_, fun o ho => ?_, fun o ob ho => ?_⟩⟩
 ·by_cases e : o = q
  ·subst e
   rw [m0] at hc
   cases hc
   rcases ht.place with ⟨g1, g2⟩ | ⟨g, _⟩
   all_goals grind
  grind
 ·by_cases e : o = q
  ·subst e
   rw [m0] at hc
   cases hc
   refine ⟨fun hi => ?_, hplt⟩
   rcases ht.place with ⟨g1, _⟩ | ⟨g, _⟩
   ·exact k1 _ hi g1
   ·have := himLt _ hi; omega
  ·rw [j2 o e] at hc
   obtain ⟨g1, g2⟩ := hinv.sep o c hc
   exact ⟨g1, by have := ht.grow; omega⟩
 ·have key : ∀ o, o ≠ q -> (bh q).blk = some c -> (μ o).blk = some c -> False := fun o e g1 g2 => by
   rw [m0] at g1
   cases g1
   rcases ht.place with ⟨g3, _⟩ | ⟨g3, _⟩
   ·exact k4 o b' e g2 g3
   ·have := (hinv.sep o b' g2).2; omega
  by_cases e : o = q
  ·by_cases e' : o' = q
   ·rw [e, e']
   ·subst e
    rw [j2 o' e'] at h3
    exact (key o' e' h2 h3).elim
  ·by_cases e' : o' = q
   ·subst e'
    rw [j2 o e] at h2
    exact (key o e h3 h2).elim
   ·rw [j2 o e] at h2
    rw [j2 o' e'] at h3
    exact hinv.inj o o' c h2 h3
 ·have e : o ≠ q := fun e => by subst e; rw [h1] at ho; cases ho
  rw [j2 o e]
  exact hinv.dom o ((hsame o e).symm.trans ho)
 ·by_cases e : o = q
  ·subst e
   rw [h1] at ho
   cases ho
   obtain ⟨cells, g1, g2, g3, g4, g5⟩ := ht.row
   refine .inr (.inl ⟨rfl, b', cap', cells, m0, g1, g2, g3, by rw [g4]; show cap' = cap' * 1; omega, ?_⟩)
   show aR (aM w' im (.int .i64)) (cells.toList.take (ys.length * 1)) ys
   rw [Nat.mul_one]
   exact mN.2 g5
  ·rw [j2 o e]
   refine (hinv.obj o ob ((hsame o e).symm.trans ho)).ev ev fun c hc => ?_
   exact ht.old c (hinv.sep o c hc).2 (k4 o c e hc)
theorem tQ {W : World} {im : Nat -> Prop} {μ : Mu} {hp : Hp} {o : Nat} {T : TypeId} {m : Nat} {xs : af} (h : il W im μ hp (μ o) (.arr T (.int .i64) m false xs)) :
  (∃ a, μ o = .nil a /\ xs = []) \/ ∃ b cap cells, μ o = .row b cap /\ W.heap[b]? = some (.cells cells T (0, 0)) /\ xs.length <= cap /\ cap <= maxLen /\ cells.size = cap /\ cells.toList.take xs.length = xs.map (Value.int .i64) := by
 rcases h with ⟨a, h1, h2⟩ | ⟨_, b, cap, cells, h1, h2, h3, h4, h5, h6⟩ | ⟨h1, _⟩
 ·grind
 ·refine .inr ⟨b, cap, cells, h1, h2, h3, h4, by rw [h5]; show cap * 1 = cap; omega, ?_⟩
  have h6' : aR (aM W im (.int .i64)) (cells.toList.take (xs.length * 1)) xs := h6
  grind [mN]
 ·cases h1
theorem rC {W : World} {b : Nat} {cells : Array Value} {T : TypeId} {fr : Nat × Nat} (h : W.heap[b]? = some (.cells cells T fr)) (k : Nat) : W.cell? ⟨b, k, none⟩ = cells[k]? := by
 simp [World.cell?, h]
theorem kI {W : World} {b : Nat} {cells : Array Value} {T : TypeId} (h : W.heap[b]? = some (.cells cells T (0, 0))) (k : Nat) : W.frozen? ⟨b, k, none⟩ = false := by
 simp [World.frozen?, h]
theorem yF {cells : Array Value} {xs : af} (h : cells.toList.take xs.length = xs.map (Value.int .i64)) {j : Nat} (hj : j < xs.length) : cells[j]? = some (.int .i64 (xs[j]'hj)) := by
 have h2 : (cells.toList.take xs.length)[j]? = (xs.map (Value.int .i64))[j]? := by rw [h]
 grind
theorem tR {W : World} {b : Nat} {cells : Array Value} {T : TypeId} {xs : af} (h : W.heap[b]? = some (.cells cells T (0, 0))) (ht : cells.toList.take xs.length = xs.map (Value.int .i64)) : Sort.Holds (Value.int .i64) W b 0 xs.toArray := by
 intro j hj
 have hj' : j < xs.length := by simpa using hj
 refine ⟨?_, kI h _⟩
 rw [rC h, Nat.zero_add, yF ht hj', getElem!_pos _ j hj]
 simp
theorem ma {W : World} {b cap n : Nat} {cells : Array Value} {T : TypeId} {os : Array Obj} {zs ys : af} (h : W.heap[b]? = some (.cells cells T (0, 0))) (hc : cells.size = cap) (hm : cap <= maxLen) (hz : zs.length <= cap) (hy : ys.length <= zs.length) (hp : zs.take ys.length = ys) :
  tP W (Sort.grow (Sort.putRow (Value.int .i64) (Sort.ahead W n) b 0 zs.toArray) os) b T ys b cap := by
 have hb : b < W.heap.size := (Array.getElem?_eq_some_iff.1 h).1
 have fP : (Sort.putRow (Value.int .i64) (Sort.ahead W n) b 0 zs.toArray).heap.size = W.heap.size := by
  simp
 have hat : ∀ c, c < W.heap.size -> (Sort.grow (Sort.putRow (Value.int .i64) (Sort.ahead W n) b 0 zs.toArray) os).heap[c]? = (Sort.putRow (Value.int .i64) (Sort.ahead W n) b 0 zs.toArray).heap[c]? := fun c hc => by
  show (_ ++ os)[c]? = _
  grind
 refine ⟨rfl, rfl, rfl, ?_, fun c hc hn => ?_, .inl ⟨rfl, hb⟩, Sort.putCells (Value.int .i64) 0 zs.toArray cells, ?_, by omega, hm, by simp [Sort.putCells, hc], ?_⟩
 ·simp
 ·rw [hat c hc]
  show (W.heap.modify b _)[c]? = _
  grind
 ·rw [hat b hb]
  show (W.heap.modify b _)[b]? = _
  rw [Array.getElem?_modify, if_pos rfl, h]
  rfl
 ·apply List.ext_getElem?
  intro j
  by_cases hj : j < ys.length
  ·have hjz : j < zs.length := by omega
   have e : zs[j]? = ys[j]? := by rw [← hp, List.getElem?_take, if_pos hj]
   rw [List.getElem?_take, if_pos hj, Array.getElem?_toList]
   simp only [Sort.putCells, Array.getElem?_mapIdx]
   grind
  grind
theorem wv {v : Value} (h : aY v = false) : v.cells.toList = [v] := by
 cases v <;> first | rfl | cases h
theorem kJ {w : World} {im : Nat -> Prop} {μ : Mu} {hp : Hp} {o m : Nat} {T : TypeId} {e : Ty} {z : Bool} {xs : List e.den} {v : Value} (ho : hp o = some (.arr T e m z xs)) (h : RepA w im μ hp (.os o m) v.cells.toList) (ha : aY v = false) : cn (μ o) xs.length v := by
 grind [RepA, wv]
theorem yG {w : World} {im : Nat -> Prop} {μ : Mu} {hp : Hp} {n : Int} {v : Value} (h : RepA w im μ hp (.d (.int .i64) n) v.cells.toList) (ha : aY v = false) : v = .int .i64 n := by
 grind [RepA, aM, wv]
def tS : Array Value -> Nat -> List Value -> Array Value
 | c, _, [] => c
 | c, o, v :: r => tS (c.setIfInBounds o v) (o + 1) r
theorem mP : ∀ (vs : List Value) (c : Array Value) (o : Nat), (tS c o vs).size = c.size
 | [], _, _ => rfl
 | v :: r, c, o => by rw [tS, mP r]; simp
theorem mc : ∀ (vs : List Value) (c : Array Value) (o k : Nat), o + vs.length <= c.size -> (tS c o vs)[k]? = if o <= k /\ k < o + vs.length then vs[k - o]? else c[k]?
 | [], c, o, k, _ => by rw [tS, if_neg (by simp only [List.length_nil]; omega)]
 | v :: r, c, o, k, h => by
  simp only [List.length_cons] at h
  rw [tS, mc r (c.setIfInBounds o v) (o + 1) k (by simp only [Array.size_setIfInBounds]; omega)]
  grind
theorem dQ : ∀ (vs : List Value) (o : Nat) (w : World) (b : Nat), (∀ c, c ≠ b -> (w.setCells b o vs).heap[c]? = w.heap[c]?) /\ (∀ cells T fr, w.heap[b]? = some (.cells cells T fr) -> (w.setCells b o vs).heap[b]? = some (.cells (tS cells o vs) T fr)) /\ (w.setCells b o vs).heap.size = w.heap.size /\ (w.setCells b o vs).os = w.os /\ (w.setCells b o vs).tape = w.tape /\ (w.setCells b o vs).output = w.output
 | [], o, w, b => ⟨fun _ _ => rfl, fun _ _ _ h => h, rfl, rfl, rfl, rfl⟩
 | v :: r, o, w, b => by
  obtain ⟨h1, h2, h3, h4, h5, h6⟩ := dQ r (o + 1) (w.setCell ⟨b, o, none⟩ v) b
  have e := Sort.setCell_eq w b o v
  have k1 : ∀ c, c ≠ b -> (w.setCell ⟨b, o, none⟩ v).heap[c]? = w.heap[c]? := fun c hc => by
   rw [e]
   show (w.heap.modify b _)[c]? = _
   grind
  refine ⟨fun c hc => (h1 c hc).trans (k1 c hc), fun cells T fr h => h2 _ T fr ?_, h3.trans (by rw [e]; show (w.heap.modify b _).size = _; simp), h4, h5, h6⟩
  rw [e]
  show (w.heap.modify b _)[b]? = _
  rw [Array.getElem?_modify, if_pos rfl, h]
  rfl
def iB (xs : af) (i : Nat) (v : Int) : af := xs.take i ++ v :: xs.drop i
theorem tT {xs : af} {i : Nat} {v : Int} (h : i <= xs.length) : (iB xs i v).length = xs.length + 1 := by
 grind [iB]
theorem N2 {xs : af} {i : Nat} {v : Int} (h : i <= xs.length) (k : Nat) : (iB xs i v)[k]? = if k < i then xs[k]? else if k = i then some v else xs[k - 1]? := by
 grind [iB]
theorem yH {c c' : Array Value} {xs : af} {i : Nat} {v : Int} (hi : i <= xs.length) (hc : xs.length + 1 <= c.size) (mV : ∀ j, j < i -> c[j]? = (xs[j]?).map (Value.int .i64))
  (hc' : c' = tS (tS c (i + 1) ((xs.map (Value.int .i64)).drop i)) i [.int .i64 v] \/ c' = tS (tS c i [.int .i64 v]) (i + 1) ((xs.map (Value.int .i64)).drop i)) :
  c'.size = c.size /\ c'.toList.take (iB xs i v).length = (iB xs i v).map (Value.int .i64) := by
 have hd : ((xs.map (Value.int .i64)).drop i).length = xs.length - i := by rw [List.length_drop, List.length_map]
 have aA : ∀ k, k < xs.length + 1 -> c'[k]? = ((iB xs i v)[k]?).map (Value.int .i64) := by
  intro k hk
  rw [N2 hi]
  rcases hc' with rfl | rfl
  ·rw [mc _ _ _ _ (by rw [mP]; simp only [List.length_singleton]; omega)]
   simp only [List.length_singleton]
   by_cases h1 : k = i
   ·grind
   grind [mc]
  ·rw [mc _ _ _ _ (by rw [mP, hd]; omega), hd]
   grind [mc]
 have fP : c'.size = c.size := by
  grind [mP]
 refine ⟨fP, ?_⟩
 apply List.ext_getElem?
 grind [tT]
end Go.Vm
set_option maxRecDepth 100000
set_option maxHeartbeats 4000000
namespace Go.Proofs.XRT
open Go.Vm Go Go.Shelf Tryz IntKind
noncomputable section
def eR (xs : af) : af := xs.mergeSort fun x y => decide (x <= y)
def N3 : List AV -> LHp -> Tq
 | [.os 0 0], [(0, .arr 3 zI 0 false xs)] => .br (decide (xs.length <= 2147483648)) (.leaf (.ret []) [(0, .arr 3 aa 0 false (eR xs))]) .no
 | _, _ => .no
theorem yI : bg 188 (ao N3) := by
 refine aO fun args hs ae aH h' => ?_
 unfold N3 at h'
 split at h'
 ·rename_i xs
  obtain ⟨hb, h2⟩ := Tq.br_no h'
  have hb : List.length xs <= 2147483648 := aU hb
  cases h2
  refine ⟨call188, fun W im μ vals himLt _ hinv hrep => ?_⟩
  have h0 : aA [(0, aj.arr 3 (.int .i64) 0 false xs)] 0 = some (.arr 3 (.int .i64) 0 false xs) := rfl
  simp only [RepFs] at hrep
  obtain ⟨v, us, rfl, h1, h2, rfl⟩ := hrep
  have hv := kJ h0 h1 h2
  rcases tQ (hinv.obj 0 _ h0) with ⟨a, g1, rfl⟩ | ⟨b, cap, cells, g1, g2, g3, g4, g5, g6⟩
  ·rw [g1] at hv
   obtain rfl : v = .slice a 0 0 := hv
   refine (Any.slices_Sort_int_none (ρ := Ew) GP a 0 W).mono ?_
   rintro e w' ⟨rfl, rfl⟩
   refine ⟨_, _, im, μ, ⟨rfl, rfl⟩, ⟨rfl, rfl, rfl, Nat.le_refl _, fun _ _ _ => rfl, fun _ h => h, fun _ h => .inl h, himLt, fun o c h => .inl ⟨o, h⟩, fun o ob ho => ⟨ob, ?_, cA.refl _ _⟩, ?_⟩, [], rfl, rfl⟩
   ·have : eR [] = [] := by simp [eR]
    rw [this]; exact ho
   ·have : eR [] = [] := by simp [eR]
    rw [this]; exact hinv
  ·rw [g1] at hv
   obtain rfl : v = .slice (some ⟨b, 0, none⟩) (List.length xs) cap := hv
   have hlen : (eR xs).length = List.length xs := List.length_mergeSort _
   refine (Any.slices_Sort_int (ρ := Ew) GP b 0 cap xs W (tR g2 g6) ((Array.getElem?_eq_some_iff.1 g2).1) (by omega)).mono ?_
   rintro e w' ⟨rfl, n, os, rfl⟩
   refine ⟨_, _, im, _, ⟨rfl, rfl⟩, mO (m' := 0) (ys := eR xs) himLt hinv h0 (.inl g1) rfl ?_ (ma (zs := eR xs) g2 g5 g4 (by rw [hlen]; exact g3) (Nat.le_refl _) (List.take_of_length_le (Nat.le_refl _))) (.inl ⟨rfl, hlen, rfl, rfl⟩), [], rfl, rfl⟩
   intro o ho
   have e1 : Nat.beq 0 o = false := by rw [← Bool.not_eq_true]; intro ll; exact ho (bj ll).symm
   simp only [aA, e1, ax]
 ·cases h'
def abr : List AV -> LHp -> Tq
 | [.os 0 0], [(0, .arr 3 zI 0 false xs)] => .br (decide (xs.length <= 2147483648)) (.leaf (.ret []) [(0, .arr 3 aa 0 false xs.reverse)]) .no
 | _, _ => .no
theorem UM : bg 258 (ao abr) := by
 refine aO fun args hs ae aH h' => ?_
 unfold abr at h'
 split at h'
 ·rename_i xs
  obtain ⟨hb, h2⟩ := Tq.br_no h'
  have hb : List.length xs <= 2147483648 := aU hb
  cases h2
  refine ⟨call258, fun W im μ vals himLt _ hinv hrep => ?_⟩
  have h0 : aA [(0, aj.arr 3 (.int .i64) 0 false xs)] 0 = some (.arr 3 (.int .i64) 0 false xs) := rfl
  simp only [RepFs] at hrep
  obtain ⟨v, us, rfl, h1, h2, rfl⟩ := hrep
  have hv := kJ h0 h1 h2
  rcases tQ (hinv.obj 0 _ h0) with ⟨a, g1, rfl⟩ | ⟨b, cap, cells, g1, g2, g3, g4, g5, g6⟩
  ·rw [g1] at hv
   obtain rfl : v = .slice a 0 0 := hv
   refine (Any.slices_Reverse_int_empty (ρ := Ex) GQ a 0 W).mono ?_
   rintro e w' ⟨rfl, rfl⟩
   refine ⟨_, _, im, μ, ⟨rfl, rfl⟩, ⟨rfl, rfl, rfl, Nat.le_refl _, fun _ _ _ => rfl, fun _ h => h, fun _ h => .inl h, himLt, fun o c h => .inl ⟨o, h⟩, fun o ob ho => ⟨ob, ?_, cA.refl _ _⟩, ?_⟩, [], rfl, rfl⟩
   ·have : ([] : af).reverse = [] := rfl
    rw [this]; exact ho
   ·have : ([] : af).reverse = [] := rfl
    rw [this]; exact hinv
  ·rw [g1] at hv
   obtain rfl : v = .slice (some ⟨b, 0, none⟩) (List.length xs) cap := hv
   have hlen : xs.reverse.length = List.length xs := List.length_reverse
   refine (Any.slices_Reverse_int (ρ := Ex) GQ b 0 cap xs W (tR g2 g6) (by omega)).mono ?_
   rintro e w' ⟨rfl, n, rfl⟩
   have ht := ma (n := n) (os := #[]) (zs := xs.reverse) (ys := xs.reverse) g2 g5 g4 (by rw [hlen]; exact g3) (Nat.le_refl _) (List.take_of_length_le (Nat.le_refl _))
   rw [Sort.grow_empty] at ht
   refine ⟨_, _, im, _, ⟨rfl, rfl⟩, mO (m' := 0) (ys := xs.reverse) himLt hinv h0 (.inl g1) rfl ?_ ht (.inl ⟨rfl, hlen, rfl, rfl⟩), [], rfl, rfl⟩
   intro o ho
   have e1 : Nat.beq 0 o = false := by rw [← Bool.not_eq_true]; intro ll; exact ho (bj ll).symm
   simp only [aA, e1, ax]
 ·cases h'
def m6 (xs : af) (i : Nat) : af := xs.take i ++ xs.drop (i + 1)
def abt : List AV -> LHp -> Tq
 | [.os 0 0, .d zI i, .d zI j], [(0, .arr 3 zI 0 false xs)] => .br (decide (0 <= i /\ i < (List.length xs : Int) /\ j = i + 1)) (.leaf (.ret [.os 0 1]) [(0, .arr 3 aa 1 false (m6 xs i.toNat))]) .no
 | _, _ => .no
theorem UN : bg 259 (ao abt) := by
 refine aO fun args hs ae aH h' => ?_
 unfold abt at h'
 split at h'
 ·rename_i i j xs
  obtain ⟨hb, h2⟩ := Tq.br_no h'
  obtain ⟨b1, b2, b3⟩ := aU hb
  cases h2
  have b3 : j = i + 1 := b3
  subst b3
  obtain ⟨k, rfl⟩ := Int.eq_ofNat_of_zero_le b1
  have b2 : k < List.length xs := by have : (k : Int) < (List.length xs : Int) := b2; omega
  refine ⟨call259, fun W im μ vals himLt _ hinv hrep => ?_⟩
  have h0 : aA [(0, aj.arr 3 (.int .i64) 0 false xs)] 0 = some (.arr 3 (.int .i64) 0 false xs) := rfl
  simp only [RepFs] at hrep
  obtain ⟨v, us, rfl, h1, h2, v2, us2, rfl, h3, h4, v3, us3, rfl, h5, h6, rfl⟩ := hrep
  have hv := kJ h0 h1 h2
  obtain rfl := yG h3 h4
  obtain rfl := yG h5 h6
  rcases tQ (hinv.obj 0 _ h0) with ⟨a, g1, rfl⟩ | ⟨b, cap, cells, g1, g2, g3, g4, g5, g6⟩
  ·simp at b2
  ·rw [g1] at hv
   obtain rfl : v = .slice (some ⟨b, 0, none⟩) (List.length xs) cap := hv
   have hd := Any.slices_Delete_int (ρ := N1) UL b 0 cap k (k + 1) xs W (tR g2 g6) g3 (by rw [show maxLen = 9223372036854775807 by decide] at g4; exact g4) (by omega) (by omega)
   have hlen : (m6 xs k).length = List.length xs - 1 := by unfold m6; rw [List.length_append, List.length_take, List.length_drop]; omega
   have el : List.length xs - (k + 1 - k) = (m6 xs k).length := by rw [hlen]; omega
   have hzl : (xs.take k ++ xs.drop (k + 1) ++ List.replicate (k + 1 - k) 0).length = List.length xs := by rw [List.length_append, List.length_replicate]; show (m6 xs k).length + _ = _; omega
   refine hd.mono ?_
   rintro e w' ⟨rfl, n, rfl⟩
   have ht := ma (n := n) (os := #[]) (zs := xs.take k ++ xs.drop (k + 1) ++ List.replicate (k + 1 - k) 0) (ys := m6 xs k) g2 g5 g4 (by rw [hzl]; exact g3) (by rw [hzl, hlen]; omega) (by
    unfold m6
    rw [List.take_append_of_le_length (Nat.le_refl _), List.take_of_length_le (Nat.le_refl _)])
   rw [Sort.grow_empty] at ht
   refine ⟨_, _, im, _, ⟨rfl, rfl⟩, mO (m' := 1) (ys := m6 xs k) himLt hinv h0 (.inl g1) rfl ?_ ht (.inr (by decide)), _, rfl, ?_, rfl⟩
   ·intro o ho
    have e1 : Nat.beq 0 o = false := by rw [← Bool.not_eq_true]; intro ll; exact ho (bj ll).symm
    simp only [aA, e1, ax]
   ·simp only [RepA]
    refine ⟨3, .int .i64, 1, false, m6 xs k, rfl, Nat.le_refl _, _, rfl, rfl, fun _ => ?_⟩
    show cn (if 0 = 0 then Pl.row b cap else μ 0) _ _
    rw [if_pos rfl]
    show Value.slice _ _ _ = Value.slice _ _ _
    rw [← el]
 ·cases h'
def abu : List AV -> LHp -> Tq
 | [.os 1 0, .d zI i, .os 0 0], [(0, .arr 3 zI 0 false vs), (1, .arr 3 zI 0 false xs)] => .br (decide (0 <= i /\ i <= (List.length xs : Int) /\ List.length xs <= 2147483648)) (.br (Nat.beq (List.length vs) 1) (.leaf (.ret [.os 1 1]) [(0, .arr 3 aa 0 false vs), (1, .arr 3 aa 1 false (iB xs i.toNat (List.headD vs 0)))]) .no) .no
 | _, _ => .no
theorem tU : ∀ (xs : af), ∀ v ∈ xs.map (Value.int .i64), v.oneCell' = true := by
 intro xs v hv
 obtain ⟨x, _, rfl⟩ := List.mem_map.1 hv
 rfl
theorem B6 {l : List Value} {Z : Array Value} {n : Nat} (h : l.length = n) : (l.toArray ++ Z).toList.take n = l := by
 subst h
 rw [Array.toList_append, List.take_append_of_le_length (Nat.le_refl _), List.take_of_length_le (Nat.le_refl _)]
theorem UO : bg 260 (ao abu) := by
 refine aO fun args hs ae aH h' => ?_
 unfold abu at h'
 split at h'
 ·rename_i i vs xs
  obtain ⟨hb, h2⟩ := Tq.br_no h'
  obtain ⟨b1, b2, b3⟩ := aU hb
  obtain ⟨b4, h2⟩ := Tq.br_no h2
  have b4 : List.length vs = 1 := bj b4
  cases h2
  obtain ⟨k, rfl⟩ := Int.eq_ofNat_of_zero_le b1
  have b2 : k <= List.length xs := by have : (k : Int) <= (List.length xs : Int) := b2; omega
  obtain ⟨v, rfl⟩ : ∃ v : Int, vs = [v] := by
   match vs, b4 with
   | [v], _ => exact ⟨v, rfl⟩
  refine ⟨call260, fun W im μ vals himLt _ hinv hrep => ?_⟩
  have h0 : aA [(0, aj.arr 3 (.int .i64) 0 false [v]), (1, aj.arr 3 (.int .i64) 0 false xs)] 1 = some (.arr 3 (.int .i64) 0 false xs) := rfl
  have EY : aA [(0, aj.arr 3 (.int .i64) 0 false [v]), (1, aj.arr 3 (.int .i64) 0 false xs)] 0 = some (.arr 3 (.int .i64) 0 false [v]) := rfl
  simp only [RepFs] at hrep
  obtain ⟨u, us, rfl, h1, h2, u2, us2, rfl, h3, h4, u3, us3, rfl, h5, h6, rfl⟩ := hrep
  have hv := kJ h0 h1 h2
  obtain rfl := yG h3 h4
  have hv3 := kJ EY h5 h6
  have hvrow := tQ (hinv.obj 0 _ EY)
  rcases hvrow with ⟨a, _, h⟩ | ⟨vb, vc, vcells, q1, q2, q3, q4, q5, q6⟩
  ·cases h
  rw [q1] at hv3
  obtain rfl : u3 = .slice (some ⟨vb, 0, none⟩) 1 vc := hv3
  have hsame : ∀ o, o ≠ 1 -> aA [(0, aj.arr 3 aa 0 false [v]), (1, aj.arr 3 aa 1 false (iB xs k v))] o = aA [(0, aj.arr 3 (.int .i64) 0 false [v]), (1, aj.arr 3 (.int .i64) 0 false xs)] o := by
   intro o ho
   have e1 : Nat.beq 1 o = false := by rw [← Bool.not_eq_true]; intro ll; exact ho (bj ll).symm
   simp only [aA, e1]
   rfl
  have Hn : ∀ j u, [Value.int .i64 v][j]? = some u -> W.cell? ⟨vb, 0 + j, none⟩ = some u := by
   intro j u hu
   match j with
   | 0 =>
    cases hu
    rw [rC q2, yF q6 (j := 0) (by simp)]
    rfl
   | j + 1 => cases hu
  have h1v : ∀ u ∈ [Value.int .i64 v], u.oneCell' = true := tU [v]
  have hlen := tT (v := v) b2
  have fin : ∀ {b cap b' cap' : Nat} {e : Ending} {w' : World}, (μ 1 = .row b cap \/ (b = W.heap.size /\ (0 : Nat) < 1)) -> tP W w' b 3 (iB xs k v) b' cap' -> e = .returned (.slice (some ⟨b', 0, none⟩) (List.length xs + 1) cap') ->
    ∃ ae h1 bI bh, (ae = aq.ret [.os 1 1] /\ h1 = aA [(0, aj.arr 3 aa 0 false [v]), (1, aj.arr 3 aa 1 false (iB xs k v))]) /\ dc W im μ (aA [(0, aj.arr 3 (.int .i64) 0 false [v]), (1, aj.arr 3 (.int .i64) 0 false xs)]) w' bI bh h1 /\ j5 w' bI bh h1 ae e := by
   intro b cap b' cap' e w' hμ ht he
   refine ⟨_, _, im, _, ⟨rfl, rfl⟩, mO (m' := 1) (ys := iB xs k v) himLt hinv h0 hμ rfl hsame ht (.inr (by decide)), _, he, ?_, rfl⟩
   simp only [RepA]
   refine ⟨3, .int .i64, 1, false, iB xs k v, rfl, Nat.le_refl _, _, rfl, rfl, fun _ => ?_⟩
   show cn (if 1 = 1 then Pl.row b' cap' else μ 1) _ _
   rw [if_pos rfl]
   show Value.slice _ _ _ = Value.slice _ _ _
   rw [hlen]
  have mx : maxLen = 9223372036854775807 := by decide
  have new : ∀ {b cap : Nat} {cells : Array Value} {w' : World}, (∀ c, c < W.heap.size -> w'.heap[c]? = W.heap[c]?) -> w'.os = W.os -> w'.tape = W.tape -> w'.output = W.output -> w'.heap.size = W.heap.size + 1 -> w'.heap[W.heap.size]? = some (.cells cells 3 (0, 0)) -> cells.size = cap -> List.length xs + 1 <= cap -> cap <= maxLen -> cells.toList.take (iB xs k v).length = (iB xs k v).map (Value.int .i64) -> tP W w' b 3 (iB xs k v) W.heap.size cap :=
   fun g1 g2 g3 g4 g5 g6 g7 g8 g9 g10 => ⟨g2, g3, g4, by omega, fun c hc _ => g1 c hc, .inr ⟨Nat.le_refl _, by omega⟩, _, g6, by rw [hlen]; exact g8, g9, g7, g10⟩
  rcases tQ (hinv.obj 1 _ h0) with ⟨a, g1, rfl⟩ | ⟨b, cap, cells, g1, g2, g3, g4, g5, g6⟩
  ·rw [g1] at hv
   obtain rfl : u = .slice a 0 0 := hv
   obtain rfl : k = 0 := by simpa using b2
   refine (Any2.slices_Insert_int_end_grow (ρ := ga) o6 a 0 0 vb 0 1 vc [] [.int .i64 v] W (by decide) (Nat.le_refl _) (by decide) (by decide) rfl rfl (fun _ => rfl) (fun _ _ j u hu => by cases hu) Hn h1v).mono ?_
   rintro e w' ⟨rfl, rfl⟩
   have uA := grownCap_ge W (0 + 1) 0 (ga.t 3)
   have hle := grownCap_le_maxLen W (0 + 1) 0 (ga.t 3) (by rw [mx]; decide)
   refine fin (b := W.heap.size) (cap := 0) (.inr ⟨rfl, by decide⟩) (new (fun c hc => heap_alloc_old W.drew _ hc) rfl rfl rfl (by show (W.heap.push _).size = _; simp) (heap_alloc_new W.drew _) ?_ uA hle ?_) rfl
   ·have hz : (Builtin.zeroCells (Value.int .i64 0).cells (grownCap W (0 + 1) 0 (ga.t 3) - (0 + 1))).size = grownCap W (0 + 1) 0 (ga.t 3) - (0 + 1) := by simp [Builtin.zeroCells, Value.cells]
    rw [Array.size_append, hz]
    show 1 + _ = _
    omega
   ·exact B6 rfl
  ·rw [g1] at hv
   obtain rfl : u = .slice (some ⟨b, 0, none⟩) (List.length xs) cap := hv
   have hbW : b < W.heap.size := (Array.getElem?_eq_some_iff.1 g2).1
   have mV : ∀ j, j < List.length xs -> cells[j]? = (xs[j]?).map (Value.int .i64) := fun j hj => by rw [yF g6 hj, List.getElem?_eq_getElem hj]; rfl
   have pw : ∀ j u, (xs.map (Value.int .i64))[j]? = some u -> W.cell? ⟨b, 0 + j, none⟩ = some u := fun j u hu => by
    have hj : j < List.length xs := by have := (List.getElem?_eq_some_iff.1 hu).1; simpa using this
    rw [rC g2, Nat.zero_add, mV j hj, ← List.getElem?_map]; exact hu
   have hsome : ∀ j, j < cap -> (W.cell? ⟨b, 0 + j, none⟩).isSome = true := fun j hj => by
    rw [rC g2, Nat.zero_add, Array.getElem?_eq_getElem (by omega)]; rfl
   have hvb : vb ≠ b := fun e => by
    have := hinv.inj 0 1 b (by rw [q1, e]; rfl) (by rw [g1]; rfl)
    cases this
   have C1 : (xs.map (Value.int .i64)).length = List.length xs := List.length_map _
   by_cases hr : List.length xs + 1 <= cap
   ·have place : ∀ {w' : World} {c' : Array Value}, w'.os = W.os -> w'.tape = W.tape -> w'.output = W.output -> w'.heap.size = W.heap.size -> (∀ c, c ≠ b -> w'.heap[c]? = W.heap[c]?) -> w'.heap[b]? = some (.cells c' 3 (0, 0)) -> (c'.size = cells.size /\ c'.toList.take (iB xs k v).length = (iB xs k v).map (Value.int .i64)) -> tP W w' b 3 (iB xs k v) b cap :=
     fun g7 g8 g9 g10 g11 g12 g13 => ⟨g7, g8, g9, by omega, fun c _ hc => g11 c hc, .inl ⟨rfl, hbW⟩, _, g12, by rw [hlen]; exact hr, g4, by rw [g13.1, g5], g13.2⟩
    by_cases hk : k < List.length xs
    ·refine (Any2.slices_Insert_int_shift (ρ := ga) o6 b 0 (List.length xs) cap k vb 0 1 vc (xs.map (Value.int .i64)) [.int .i64 v] W hk (by decide) hr (by rw [mx] at g4; exact g4) hvb C1 rfl pw (fun j hj => hsome j (by omega)) (fun j _ => kI g2 _) Hn (tU xs) h1v 3 3 vcells.size cap (by simp [World.shape?, q2]) (by simp [World.shape?, g2, g5]) (by omega) (kI q2 _) (kI q2 _)).mono ?_
     rintro e w' ⟨rfl, rfl⟩
     obtain ⟨s1, s2, s3, s4, s5, s6⟩ := dQ ((xs.map (Value.int .i64)).drop k) (0 + (k + 1)) W.drew b
     obtain ⟨t1, t2, t3, t4, t5, t6⟩ := dQ [Value.int .i64 v] (0 + k) (W.drew.setCells b (0 + (k + 1)) ((xs.map (Value.int .i64)).drop k)) b
     have e1 := s2 cells 3 (0, 0) g2
     have e2 := t2 _ 3 (0, 0) e1
     rw [Nat.zero_add, Nat.zero_add] at e2
     exact fin (.inl g1) (place (t4.trans s4) (t5.trans s5) (t6.trans s6) (t3.trans s3) (fun c hc => (t1 c hc).trans (s1 c hc)) (by rw [Nat.zero_add, Nat.zero_add]; exact e2) (yH b2 (by omega) (fun j hj => mV j (by omega)) (.inl rfl))) rfl
    ·obtain rfl : k = List.length xs := by omega
     refine (Any2.slices_Insert_int_end_room (ρ := ga) o6 b 0 (List.length xs) cap vb 0 1 vc [.int .i64 v] W (by decide) hr (by rw [mx] at g4; exact g4) rfl (fun j hj => by rw [Nat.add_assoc]; exact hsome _ (by omega)) (fun j _ => kI g2 _) Hn h1v).mono ?_
     rintro e w' ⟨rfl, rfl⟩
     obtain ⟨t1, t2, t3, t4, t5, t6⟩ := dQ [Value.int .i64 v] (0 + List.length xs) W b
     have e2 := t2 cells 3 (0, 0) g2
     rw [Nat.zero_add] at e2
     refine fin (.inl g1) (place t4 t5 t6 t3 t1 (by rw [Nat.zero_add]; exact e2) (yH b2 (by omega) (fun j hj => mV j hj) (.inr ?_))) rfl
     have ed : (xs.map (Value.int .i64)).drop (List.length xs) = [] := List.drop_eq_nil_of_le (by rw [C1]; omega)
     rw [ed]
     rfl
   ·have hcap : cap = List.length xs := by omega
    have uA := grownCap_ge W (List.length xs + 1) cap (ga.t 3)
    have hle := grownCap_le_maxLen W (List.length xs + 1) cap (ga.t 3) (by rw [mx]; omega)
    by_cases hk : k < List.length xs
    ·refine (Any2.slices_Insert_int_grow (ρ := ga) o6 b 0 (List.length xs) cap k vb 0 1 vc (xs.map (Value.int .i64)) [.int .i64 v] W hk (by decide) g3 (by omega) (by omega) C1 rfl pw Hn (tU xs) h1v).mono ?_
     rintro e w' ⟨rfl, rfl⟩
     generalize hG : grownCap W (List.length xs + 1) cap (ga.t 3) = G at uA hle ⊢
     generalize hC : ((xs.map (Value.int .i64)).take k).toArray ++ Builtin.zeroCells (Value.int .i64 0).cells (List.length xs + 1 - k) ++ Builtin.zeroCells (Value.int .i64 0).cells (G - (List.length xs + 1)) = C
     have hz : ∀ n, (Builtin.zeroCells (Value.int .i64 0).cells n).size = n := fun n => by simp [Builtin.zeroCells, Value.cells]
     have htk : ((xs.map (Value.int .i64)).take k).toArray.size = k := by simp; omega
     have hCs : C.size = G := by rw [← hC, Array.size_append, Array.size_append, htk, hz, hz]; omega
     have hClo : ∀ j, j < k -> C[j]? = (xs[j]?).map (Value.int .i64) := fun j hj => by
      rw [← hC, Array.getElem?_append_left (by rw [Array.size_append, htk, hz]; omega), Array.getElem?_append_left (by rw [htk]; exact hj)]
      simp [hj]
     obtain ⟨s1, s2, s3, s4, s5, s6⟩ := dQ [Value.int .i64 v] k (W.alloc (.cells C 3)).drew W.heap.size
     obtain ⟨t1, t2, t3, t4, t5, t6⟩ := dQ ((xs.map (Value.int .i64)).drop k) (k + 1) (((W.alloc (.cells C 3)).drew.setCells W.heap.size k [Value.int .i64 v]).drew) W.heap.size
     have e0 : (W.alloc (.cells C 3)).drew.heap[W.heap.size]? = some (.cells C 3 (0, 0)) := heap_alloc_new W _
     have e1 := s2 C 3 (0, 0) e0
     have e2 := t2 _ 3 (0, 0) e1
     have hrow := yH (c := C) (v := v) b2 (by omega) hClo (.inr rfl)
     refine fin (.inl g1) (new (fun c hc => (t1 c (by omega)).trans ((s1 c (by omega)).trans (heap_alloc_old W _ hc))) (t4.trans s4) (t5.trans s5) (t6.trans s6) (t3.trans (s3.trans (by show (W.heap.push _).size = _; simp))) e2 (by rw [hrow.1, hCs]) uA hle hrow.2) rfl
    ·obtain rfl : k = List.length xs := by omega
     refine (Any2.slices_Insert_int_end_grow (ρ := ga) o6 (some ⟨b, 0, none⟩) (List.length xs) cap vb 0 1 vc (xs.map (Value.int .i64)) [.int .i64 v] W (by decide) g3 (by omega) (by omega) C1 rfl (fun h => by cases h) (fun a ha j u hu => by cases ha; rw [Addr.add_lit]; exact pw j u hu) Hn h1v).mono ?_
     rintro e w' ⟨rfl, rfl⟩
     generalize hG : grownCap W (List.length xs + 1) cap (ga.t 3) = G at uA hle ⊢
     have hz : ∀ n, (Builtin.zeroCells (Value.int .i64 0).cells n).size = n := fun n => by simp [Builtin.zeroCells, Value.cells]
     refine fin (.inl g1) (new (fun c hc => heap_alloc_old W.drew _ hc) rfl rfl rfl (by show (W.heap.push _).size = _; simp) (heap_alloc_new W.drew _) ?_ uA hle ?_) rfl
     ·rw [Array.size_append, hz]
      simp
      omega
     ·have ei : iB xs (List.length xs) v = xs ++ [v] := by unfold iB; rw [List.take_of_length_le (Nat.le_refl _), List.drop_eq_nil_of_le (Nat.le_refl _)]
      rw [ei, List.map_append]
      exact B6 (by simp)
 ·cases h'
end
end Go.Proofs.XRT
set_option maxRecDepth 100000
set_option maxHeartbeats 4000000
namespace Go.Proofs.XRT
open Go.Vm Go Tryz IntKind
noncomputable section
noncomputable def N4 : Code := bd f223
noncomputable def Ey : Code := cL (cL (cR (cL (cR (cR (cR (cR (cR N4))))))))
noncomputable def gT : Cfg := ⟨36, 6, 0, [(6, [7, 24, 25, 26])], true⟩
noncomputable def N5 : Code := bd f222
noncomputable def Ez : Code := cL (cL (cR (cL (cR (cR (cR (cR (cR N5))))))))
noncomputable def gU : Cfg := ⟨40, 6, 0, [(6, [6, 21, 22, 23])], true⟩
def UP : List AV -> LHp -> Tq
 | [.d zS l, .d zI r], [] => .br (decide (l.length <= 2147483648)) (.br (eh r l []) (.leaf (.ret [.os 0 0]) [(0, .arr 3 aa 0 false (lC l r))]) (pnc 131 4)) .no
 | _, _ => .no
theorem GR : bg 211 (ao UP) := by
 have h0 := bD (d := 5) (l := [(3, [1, 5, 9, 10, 11])]) we func211 call211
 have h1 : bg 211 (IG 3 aa (au mX f211 5 [(3, [1, 5, 9, 10, 11])])) := pX h0
 refine aO fun args hs ae aH h' => ?_
 unfold UP at h'
 split at h'
 ·rename_i l r
  obtain ⟨hb, h2⟩ := Tq.br_no h'
  refine h1.ok _ _ _ _ (Eq.trans ?_ h2)
  simp only [IG]
  rw [h0.eq]
  have e : (au mX f211 5 [(3, [1, 5, 9, 10, 11])]).run [.d (.slice aa) l, I r] [] (fun a h => some (a, h)) = bif eh r l [] then gq 3 (lC l r) else some (.panic 131 4, []) := (MY _ _).trans ((Wm _ _).trans (M3 (aU hb)))
  rw [e]
  show _ = (bif eh r l [] then _ else _)
  cases eh r l [] with
  | true => exact GF _ _
  | false => rfl
 ·cases h'
noncomputable def o7 : Env := ((((ry.add 25 uT).add 211 (ao UP)).add 188 (ao N3)).add 107 (ao uV)).add 260 (ao abu)
theorem Ji : o7.Good := ((((dB.add iX).add GR).add yI).add jY).add UO
def B7 (l : af) (i : Int) (o : af) : LSt := { fr := aw 6 [(7, .os 0 0), (24, .os 1 0), (25, I (Int.ofNat l.length)), (26, I i)], hp := [(0, .arr 3 aa 0 false o), (1, .arr 3 aa 0 false l)], nx := 2 }
theorem abv (op nm : ak) (ins : List (ak)) (out : ak) (ag : bn) (vs : b5) (xs : af) : aC o7 f223 6 [(6, [7, 24, 25, 26])] [fD (op, nm, ins, out, ag, ()) vs, .d (.slice aa) xs] [] ah = bif aF ag then bif decide ((al ag iu []).length <= 2147483648) then bif eh (i64.wrap (Int.ofNat xs.length + Int.ofNat (al ag iu []).length)) (al ag iu []) [] then bif decide ((lC (al ag iu []) (i64.wrap (Int.ofNat xs.length + Int.ofNat (al ag iu []).length))).length <= 2147483648) then bif decide (xs.length <= 2147483648) then (hlp o7 gT) Ey _ (B7 (eR (lC (al ag iu []) (i64.wrap (Int.ofNat xs.length + Int.ofNat (al ag iu []).length)))) 0 xs) (aQ 0 (aX o7 gT [6] (hlp o7 gT) (cR (cR (cR (cR (cR (cR N4)))))) (aZ prog 0 f223.results.toList ah))) else none else none else aV else none else none := (bq [6] gT rfl).trans (by obtain ⟨hl, h⟩ := bc o7 gT; rw [h]; kernel_rfl)
noncomputable def o8 : Env := (((((ry.add 25 uT).add 211 (ao UP)).add 188 (ao N3)).add 258 (ao abr)).add 107 (ao uV)).add 259 (ao abt)
theorem Jj : o8.Good := (((((dB.add iX).add GR).add yI).add UM).add jY).add UN
def B8 (l : af) (i : Int) (o : af) : LSt := { fr := aw 6 [(6, .os 0 0), (21, .os 1 0), (22, I (Int.ofNat l.length)), (23, I i)], hp := [(0, .arr 3 aa 0 false o), (1, .arr 3 aa 0 false l)], nx := 2 }
theorem abw (op nm : ak) (ins : List (ak)) (out : ak) (ag : bn) (vs : b5) (xs : af) : aC o8 f222 6 [(6, [6, 21, 22, 23])] [fD (op, nm, ins, out, ag, ()) vs, .d (.slice aa) xs] [] ah = bif aF ag then bif decide ((al ag iu []).length <= 2147483648) then bif eh (Int.ofNat xs.length) (al ag iu []) [] then bif decide ((lC (al ag iu []) (Int.ofNat xs.length)).length <= 2147483648) then bif decide ((eR (lC (al ag iu []) (Int.ofNat xs.length))).length <= 2147483648) then bif decide (xs.length <= 2147483648) then (hlp o8 gU) Ez _ (B8 ((eR (lC (al ag iu []) (Int.ofNat xs.length))).reverse) 0 xs) (aQ 0 (aX o8 gU [6] (hlp o8 gU) (cR (cR (cR (cR (cR (cR N5)))))) (aZ prog 0 f222.results.toList ah))) else none else none else none else aV else none else none := (bq [6] gU rfl).trans (by obtain ⟨hl, h⟩ := bc o8 gU; rw [h]; kernel_rfl)
theorem Wy (l : af) (i : Int) (o : af) (n : Nat) {R : Type} (k : AEx -> LSt -> Option R) : lp o7 gT Ey (n + 1) (B7 l i o) k = bif decide (i < Int.ofNat l.length) then (idx l i).bind fun v1 => (l[i.toNat]?).bind fun v2 => bif decide (0 <= v2 /\ v2 <= Int.ofNat o.length /\ o.length <= 2147483648) then lp o7 gT Ey n (B7 l (i64.wrap (i + 1)) (iB o (Int.toNat v2) 1)) k else none else k (AEx.exit 0) { fr := aw 6 [(7, AV.os 0 0), (24, AV.os 1 0), (25, I (Int.ofNat l.length)), (26, I i), (27, B false)], hp := [(0, aj.arr 3 (aa) 0 false o), (1, aj.arr 3 (aa) 0 false l)], nx := 2 } := by kernel_rfl
theorem Wz (l : af) (i : Int) (o : af) (n : Nat) {R : Type} (k : AEx -> LSt -> Option R) : lp o8 gU Ez (n + 1) (B8 l i o) k = bif decide (i < Int.ofNat l.length) then (idx l i).bind fun v1 => (l[i.toNat]?).bind fun v2 => (idx o v2).bind fun v3 => (o[Int.toNat v2]?).bind fun v4 => bif !v4 == 1 then k (AEx.panic 131 4) { fr := aw 6 [(6, AV.os 0 0), (8, I v2), (21, AV.os 1 0), (22, I (Int.ofNat l.length)), (23, I i), (24, B true), (25, AV.oe 1 0 i.toNat), (26, I v2), (27, AV.os 0 0), (28, I v2), (29, AV.oe 0 0 (Int.toNat v2)), (30, I v4), (31, B (v4 == 1))], hp := [(0, aj.arr 3 (aa) 0 false o), (1, aj.arr 3 (aa) 0 false l)], nx := 2 } else bif decide (0 <= v2 /\ v2 < Int.ofNat o.length /\ i64.wrap (v2 + 1) = v2 + 1) then lp o8 gU Ez n (B8 l (i64.wrap (i + 1)) (m6 o (Int.toNat v2))) k else none else k (AEx.exit 0) { fr := aw 6 [(6, AV.os 0 0), (21, AV.os 1 0), (22, I (Int.ofNat l.length)), (23, I i), (24, B false)], hp := [(0, aj.arr 3 (aa) 0 false o), (1, aj.arr 3 (aa) 0 false l)], nx := 2 } := by kernel_rfl
theorem nT {r : Int} : ∀ {l o : af}, eh r l o = true -> (lC l r).Nodup /\ ∀ a ∈ lC l r, a ∉ o
 | [], _, _ => ⟨List.nodup_nil, fun _ h => by cases h⟩
 | a :: l, o, h => by
  rw [eh, ba, ba] at h
  obtain ⟨h1, h2⟩ := nT h.2.2
  have h3 : kF a r ∉ o := fun hm => by
   have : (o.any fun w => kF a r == w) = true := List.any_eq_true.2 ⟨_, hm, by simp⟩
   rw [this] at h
   exact absurd h.2.1 (by decide)
  refine ⟨List.nodup_cons.2 ⟨fun hm => h2 _ hm (List.mem_append.2 (.inr (List.mem_singleton.2 rfl))), h1⟩, fun b hb => ?_⟩
  rcases List.mem_cons.1 hb with rfl | hb
  ·exact h3
  ·exact fun hm => h2 b hb (List.mem_append.2 (.inl hm))
theorem N6 {r : Int} {l o : af} (h0 : 0 <= r) (h1 : r <= 4294967296) (h : eh r l o = true) : ∀ a ∈ lC l r, 0 <= a /\ a < r := by
 intro a ha
 obtain ⟨b, hb, rfl⟩ := List.mem_map.1 ha
 exact Nt h0 h1 (tJ h b hb)
theorem kK (l : af) : (eR l).Perm l := List.mergeSort_perm _ _
theorem tV (l : af) : (eR l).length = l.length := (kK l).length_eq
theorem B9 {l : af} (h : l.Nodup) : (eR l).Pairwise (· < ·) := by
 have h1 : (eR l).Pairwise (fun a b => decide (a <= b) = true) := List.pairwise_mergeSort (fun a b c => by simp only [decide_eq_true_eq]; omega) (fun a b => by simp only [Bool.or_eq_true, decide_eq_true_eq]; omega) l
 have h2 : (eR l).Nodup := (kK l).nodup_iff.2 h
 refine List.Pairwise.imp_of_mem (R := fun a b => decide (a <= b) = true /\ a ≠ b) (fun _ _ hr => ?_) (h1.and h2)
 have := aU hr.1
 have := hr.2
 omega
theorem N7 {S : af} (h : S.Pairwise (· < ·)) {i : Nat} : ∀ (d : Nat) (hi : i + d < S.length), S[i]'(by omega) + (d : Int) <= S[i + d]
 | 0, hi => by simp
 | d + 1, hi => by
  have h1 := N7 h (i := i) d (by omega)
  have h2 := List.pairwise_iff_getElem.1 h (i + d) (i + (d + 1)) (by omega) hi (by omega)
  push_cast
  omega
theorem N8 {S : af} (h : S.Pairwise (· > ·)) : ∀ (i : Nat) (hi : i < S.length), S[i] + (i : Int) <= S[0]'(by omega)
 | 0, hi => by simp
 | i + 1, hi => by
  have h1 := N8 h i (by omega)
  have h2 := List.pairwise_iff_getElem.1 h i (i + 1) (by omega) hi (by omega)
  push_cast
  omega
noncomputable def KUq : AEx -> LSt -> Option (aq × LHp) := (aQ 0 (aX o7 gT [6] (hlp o7 gT) (cR (cR (cR (cR (cR (cR N4)))))) (aZ prog 0 f223.results.toList ah)))
noncomputable def KSz : AEx -> LSt -> Option (aq × LHp) := (aQ 0 (aX o8 gU [6] (hlp o8 gU) (cR (cR (cR (cR (cR (cR N5)))))) (aZ prog 0 f222.results.toList ah)))
def usR : List Int -> List Int -> af
 | [], o => o
 | a :: l, o => usR l (iB o a.toNat 1)
theorem abx {l xs : af} (hx : xs.length <= 6) (hl : l.length <= 2147483640) (C0 : ∀ i (h : i < l.length), 0 <= l[i] /\ l[i] <= (xs.length : Int) + (i : Int)) : lp o7 gT Ey fu (B7 l 0 xs) KUq = yj 3 (some (usR l xs)) := by
 have hm : maxLen = 9223372036854775807 := by decide
 have sc : ∀ (l o : af), cg (fun (o : af) (a : Int) => Nx.go (R := aq × LHp) (iB o a.toNat 1)) (fun o => yj 3 (some o)) l o = yj 3 (some (usR l o)) := by
  intro l
  induction l with
  | nil => intro o; rfl
  | cons a l ih => intro o; exact ih _
 refine (cq (xs := l) (T := fun n s => lp o7 gT Ey n s KUq) (st := fun (i : Int) (o : af) => B7 l i o) (f := fun (o : af) (a : Int) => Nx.go (iB o a.toNat 1)) (fin := fun (o : af) => yj 3 (some o)) (fun (i : Nat) (o : af) => o.length = xs.length + i) (by omega) ?_ ?_ (a := xs) rfl).trans (sc l xs)
 ·intro i o a n hI hi gx gi hw hd
  have gx' := gx
  rw [List.getElem?_eq_getElem hi] at gx'
  have ea := Option.some.inj gx'
  obtain ⟨a0, a1⟩ := C0 i hi
  rw [ea] at a0 a1
  have hs := Wy l (i : Int) o n KUq
  rw [hd, ai, gi, aB, Int.toNat_natCast, gx, aB, aD (show 0 <= a /\ a <= Int.ofNat o.length /\ o.length <= 2147483648 by simp only [aK]; omega), ai, hw] at hs
  exact .inl ⟨_, rfl, by show (iB o a.toNat 1).length = _; rw [tT (by omega), hI]; omega, hs⟩
 ·intro o n hI hd
  show lp _ _ _ (n + 1) (B7 l (l.length : Int) o) _ = _
  rw [Wy, hd, ax]
  show _ = _
  kernel_rfl
theorem agD (l xs : af) : hlp o7 gT Ey (aq × LHp) (B7 l 0 xs) KUq = lp o7 gT Ey fu (B7 l 0 xs) KUq := rfl
def sqR : List Int -> List Int -> Option (af)
 | [], o => some o
 | a :: l, o => bif o.getD a.toNat 0 == 1 then sqR l (m6 o a.toNat) else none
theorem N9 {xs : af} {i : Nat} (h : i < xs.length) : (m6 xs i).length + 1 = xs.length := by
 unfold m6; rw [List.length_append, List.length_take, List.length_drop]; omega
theorem aby {l xs : af} (hx : xs.length <= 6) (hl : l.length <= 2147483640) (C0 : ∀ i (h : i < l.length), 0 <= l[i] /\ l[i] + (i : Int) < (xs.length : Int)) : lp o8 gU Ez fu (B8 l 0 xs) KSz = yj 3 (sqR l xs) := by
 have hm : maxLen = 9223372036854775807 := by decide
 have sc : ∀ (l o : af), cg (fun (o : af) (a : Int) => bif o.getD a.toNat 0 == 1 then Nx.go (m6 o a.toNat) else Nx.stop (some (aq.panic 131 4, ([] : LHp)))) (fun o => yj 3 (some o)) l o = yj 3 (sqR l o) := by
  intro l
  induction l with
  | nil => intro o; rfl
  | cons a l ih =>
   intro o
   rw [cg, sqR]
   cases o.getD a.toNat 0 == 1 with
   | true => exact ih _
   | false => rfl
 refine (cq (xs := l) (T := fun n s => lp o8 gU Ez n s KSz) (st := fun (i : Int) (o : af) => B8 l i o) (f := fun (o : af) (a : Int) => bif o.getD a.toNat 0 == 1 then Nx.go (m6 o a.toNat) else Nx.stop (some (aq.panic 131 4, ([] : LHp)))) (fin := fun (o : af) => yj 3 (some o)) (fun (i : Nat) (o : af) => o.length + i = xs.length) (by omega) ?_ ?_ (a := xs) rfl).trans (sc l xs)
 ·intro i o a n hI hi gx gi hw hd
  have gx' := gx
  rw [List.getElem?_eq_getElem hi] at gx'
  have ea := Option.some.inj gx'
  obtain ⟨a0, a1⟩ := C0 i hi
  rw [ea] at a0 a1
  have hs := Wz l (i : Int) o n KSz
  have g1 : idx o a = some (o.getD a.toNat 0) := Eh a0 (by omega)
  have g2 : o[a.toNat]? = some (o.getD a.toNat 0) := by rw [List.getD_eq_getElem?_getD, List.getElem?_eq_getElem (by omega)]; rfl
  rw [hd, ai, gi, aB, Int.toNat_natCast, gx, aB, g1, aB, g2, aB, aD (show 0 <= a /\ a < Int.ofNat o.length /\ i64.wrap (a + 1) = a + 1 from ⟨a0, by simp only [aK]; omega, aI (by omega) (by omega)⟩), ai, hw] at hs
  cases c1 : o.getD a.toNat 0 == 1 with
  | true =>
   rw [c1, Bool.not_true, ax] at hs
   exact .inl ⟨_, rfl, by show (m6 o a.toNat).length + (i + 1) = _; have := N9 (xs := o) (i := a.toNat) (by omega); omega, hs⟩
  | false =>
   rw [c1, Bool.not_false, ai] at hs
   exact .inr ⟨_, rfl, hs.trans (by kernel_rfl)⟩
 ·intro o n hI hd
  show lp _ _ _ (n + 1) (B8 l (l.length : Int) o) _ = _
  rw [Wz, hd, ax]
  show _ = _
  kernel_rfl
theorem agF (l xs : af) : hlp o8 gU Ez (aq × LHp) (B8 l 0 xs) KSz = lp o8 gU Ez fu (B8 l 0 xs) KSz := rfl
def de (ag : bn) : af := al ag du []
def UQ (ag : bn) (xs : af) : Option (af) := bif eh (Int.ofNat (xs.length + (de ag).length)) (de ag) [] then some (usR (eR (lC (de ag) (Int.ofNat (xs.length + (de ag).length)))) xs) else none
def agG (ag : bn) (xs : af) : Bool := (UQ ag xs).isSome
def agH (ag : bn) (xs : af) : af := (UQ ag xs).getD []
def abz : List AV -> LHp -> Tq
 | [.d Y4 ((_, _, _, _, ag, _), _, _), .d zS xs], [] => .br (aF ag) (.br (decide (xs.length <= 6)) (.br (decide ((de ag).length <= 2147483640)) (TW (agG ag xs) (agH ag xs)) .no) .no) .no
 | _, _ => .no
theorem UR : bg 223 (ao abz) := by
 have h1 := bD (d := 6) (l := [(6, [7, 24, 25, 26])]) Ji func223 call223
 refine aO fun args hs ae aH h' => ?_
 unfold abz at h'
 split at h'
 ·rename_i op nm ins out ag _ vs _ xs
  obtain ⟨hs, h2⟩ := Tq.br_no h'
  obtain ⟨hb, h3⟩ := Tq.br_no h2
  obtain ⟨hL, h4⟩ := Tq.br_no h3
  have hb : xs.length <= 6 := aU hb
  have hL := aU hL
  refine h1.okO (.slice aa) (Eq.trans ?_ (show (tI (UQ ag xs)).run ah = some (ae, aH) from h4))
  refine Eq.trans (congrArg (cK _) (abv op nm ins out ag vs xs)) ?_
  have es : al ag iu [] = de ag := rfl
  have w : i64.wrap (Int.ofNat xs.length + Int.ofNat (de ag).length) = Int.ofNat (xs.length + (de ag).length) := by simp only [aK]; rw [aI (by omega) (by omega)]; omega
  rw [hs, ai, es, aD (show (de ag).length <= 2147483648 by omega), ai, w, aD (show (lC (de ag) (Int.ofNat (xs.length + (de ag).length))).length <= 2147483648 by rw [ij]; omega), ai, aD (show xs.length <= 2147483648 by omega), ai, ← jG 3]
  unfold UQ
  cases hq : eh (Int.ofNat (xs.length + (de ag).length)) (de ag) [] with
  | false => rfl
  | true =>
   have hnd := (nT hq).1
   have C0 := N6 (r := Int.ofNat (xs.length + (de ag).length)) (by simp only [aK]; omega) (by simp only [aK]; omega) hq
   have hlen : (eR (lC (de ag) (Int.ofNat (xs.length + (de ag).length)))).length = (de ag).length := by rw [tV, ij]
   have hinc := B9 hnd
   have h9 := (agD (eR (lC (de ag) (Int.ofNat (xs.length + (de ag).length)))) xs).trans (abx hb (by rw [hlen]; exact hL) (by
    intro i hi
    have hmem := C0 _ ((kK _).mem_iff.1 (List.getElem_mem hi))
    refine ⟨hmem.1, ?_⟩
    have h5 := N7 hinc (i := i) ((de ag).length - 1 - i) (by rw [hlen]; rw [hlen] at hi; omega)
    have h6 : _ < ((xs.length + (de ag).length : Nat) : Int) := (C0 _ ((kK _).mem_iff.1 (List.getElem_mem (show i + ((de ag).length - 1 - i) < (eR (lC (de ag) (Int.ofNat (xs.length + (de ag).length)))).length by rw [hlen]; rw [hlen] at hi; omega)))).2
    rw [hlen] at hi
    omega))
   rw [ai, ai]
   exact congrArg (cK (.slice aa)) h9
 ·cases h'
noncomputable def agI : FnE := b8 [(Y4), .slice aa] (ao abz)
theorem US : bg 223 agI := bf UR
def UT (ag : bn) (xs : af) : Option (af) := bif eh (Int.ofNat xs.length) (de ag) [] then sqR (eR (lC (de ag) (Int.ofNat xs.length))).reverse xs else none
def agJ (ag : bn) (xs : af) : Bool := (UT ag xs).isSome
def agK (ag : bn) (xs : af) : af := (UT ag xs).getD []
def abA : List AV -> LHp -> Tq
 | [.d Y4 ((_, _, _, _, ag, _), _, _), .d zS xs], [] => .br (aF ag) (.br (decide (xs.length <= 6)) (.br (decide ((de ag).length <= 2147483640)) (TW (agJ ag xs) (agK ag xs)) .no) .no) .no
 | _, _ => .no
theorem UU : bg 222 (ao abA) := by
 have h1 := bD (d := 6) (l := [(6, [6, 21, 22, 23])]) Jj func222 call222
 refine aO fun args hs ae aH h' => ?_
 unfold abA at h'
 split at h'
 ·rename_i op nm ins out ag _ vs _ xs
  obtain ⟨hs, h2⟩ := Tq.br_no h'
  obtain ⟨hb, h3⟩ := Tq.br_no h2
  obtain ⟨hL, h4⟩ := Tq.br_no h3
  have hb : xs.length <= 6 := aU hb
  have hL := aU hL
  refine h1.okO (.slice aa) (Eq.trans ?_ (show (tI (UT ag xs)).run ah = some (ae, aH) from h4))
  refine Eq.trans (congrArg (cK _) (abw op nm ins out ag vs xs)) ?_
  have es : al ag iu [] = de ag := rfl
  rw [hs, ai, es, aD (show (de ag).length <= 2147483648 by omega), ai, aD (show (lC (de ag) (Int.ofNat xs.length)).length <= 2147483648 by rw [ij]; omega), ai, aD (show (eR (lC (de ag) (Int.ofNat xs.length))).length <= 2147483648 by rw [tV, ij]; omega), ai, aD (show xs.length <= 2147483648 by omega), ai, ← jG 3]
  unfold UT
  cases hq : eh (Int.ofNat xs.length) (de ag) [] with
  | false => rfl
  | true =>
   have hnd := (nT hq).1
   have C0 := N6 (r := Int.ofNat xs.length) (by simp only [aK]; omega) (by simp only [aK]; omega) hq
   have hlen : (eR (lC (de ag) (Int.ofNat xs.length))).reverse.length = (de ag).length := by rw [List.length_reverse, tV, ij]
   have hdec : (eR (lC (de ag) (Int.ofNat xs.length))).reverse.Pairwise (· > ·) := List.pairwise_reverse.2 (B9 hnd)
   have hmem : ∀ i (hi : i < (eR (lC (de ag) (Int.ofNat xs.length))).reverse.length), 0 <= (eR (lC (de ag) (Int.ofNat xs.length))).reverse[i] /\ (eR (lC (de ag) (Int.ofNat xs.length))).reverse[i] < Int.ofNat xs.length := fun i hi => C0 _ ((kK _).mem_iff.1 (List.mem_reverse.1 (List.getElem_mem hi)))
   have h9 := (agF (eR (lC (de ag) (Int.ofNat xs.length))).reverse xs).trans (aby hb (by rw [hlen]; exact hL) (by
    intro i hi
    refine ⟨(hmem i hi).1, ?_⟩
    have h5 := N8 hdec i hi
    have h6 : _ < (xs.length : Int) := (hmem 0 (by omega)).2
    omega))
   rw [ai, ai]
   exact congrArg (cK (.slice aa)) h9
 ·cases h'
noncomputable def agL : FnE := b8 [(Y4), .slice aa] (ao abA)
theorem UW : bg 222 agL := bf UU
def abB : List AV -> LHp -> Tq
 | [.os 0 0], [(0, .arr 31 zS 0 false [l1, l2, l3])] => .br (decide (l1.length + l2.length + l3.length <= 65536)) (.leaf (.ret [.os 1 0]) [(0, .arr 31 (.slice aa) 0 false [l1, l2, l3]), (1, .arr 3 aa 0 false (l1 ++ l2 ++ l3))]) .no
 | _, _ => .no
theorem UX : bg 220 (ao abB) := by
 have h1 : bg 220 (au e13 f220 6 [(3, [0, 3, 9, 10, 11]), (11, [6, 25, 26, 27])]) := xT
 refine aO fun args hs ae aH h' => ?_
 unfold abB at h'
 split at h'
 ·obtain ⟨hb, h3⟩ := Tq.br_no h'
  cases h3
  exact h1.okC (FB _ _ _ (aU hb))
 ·cases h'
noncomputable def Jk : Env := (((((((((((((ry.add 25 uT).add 149 (ao IC)).add 59 (ao qO)).add 148 Uz).add 215 TP).add 216 af2).add 219 afX).add 218 agn).add 217 agA).add 221 agk).add 224 agr).add 223 agI).add 222 agL).add 220 (ao abB)
theorem Jl : Jk.Good := (((((((((((((dB.add iX).add rB).add ig).add yB).add yh).add T3).add TY).add Uu).add UK).add Us).add Ux).add US).add UW).add UX
theorem yJ (op nm : ak) (ins : List (ak)) (out : ak) (ag : bn) (vs : b5) (xs : af) : aC Jk f155 7 [] [fD (op, nm, ins, out, ag, ()) vs, .d (.slice aa) xs] [] ah = bif op == xK then bif aF ag then bif decide (xs.length <= 2147483648) then bif af0 ag xs then az [AV.d (aa).slice (af1 ag xs)] else aV else none else none else bif op == xL then bif aF ag then bif aF ag then bif cJ (Int.ofNat (al ag qK []).length) 1 9223372036854775807 (al ag qK []) then bif decide (xs.length <= 2147483648 /\ (al ag qK []).length <= 2147483648) then bif dg xs (al ag qK []) == 0 then az [AV.d (aa).slice (gr xs (al ag qK []))] else some (aq.panic 131 (dg xs (al ag qK [])), []) else none else aV else none else none else bif op == xM then bif aF ag then bif decide (xs.length <= 6) then bif UI ag xs then az [AV.d (aa).slice (agz ag xs)] else aV else none else none else bif op == uQ then bif aF ag then bif decide (xs.length <= 2147483648) then bif decide (1 <= vs.length /\ vs.length <= 2147483648) then bif I9 ag vs xs then az [AV.d (aa).slice (Ja ag vs xs)] else aV else none else none else none else bif op == uR then bif aF ag then bif decide (xs.length <= 2147483648) then bif Ei ag xs then az [AV.d (aa).slice (Ej ag xs)] else aV else none else none else bif op == oG then bif decide (ag.length <= 9223372036854775807) then bif qR (aT ag cG 0) (Int.ofNat xs.length) then (if (0 : Int) <= 0 /\ 0 <= kF (aT ag cG 0) (Int.ofNat xs.length) /\ kF (aT ag cG 0) (Int.ofNat xs.length) <= Int.ofNat xs.length then some (List.drop 0 (List.take (kF (aT ag cG 0) (Int.ofNat xs.length)).toNat xs)) else none).bind fun v8 => (idx vs 1).bind fun v9 => (if 0 <= i64.wrap (kF (aT ag cG 0) (Int.ofNat xs.length) + 1) /\ i64.wrap (kF (aT ag cG 0) (Int.ofNat xs.length) + 1) <= Int.ofNat xs.length /\ Int.ofNat xs.length <= Int.ofNat xs.length then some (List.drop (i64.wrap (kF (aT ag cG 0) (Int.ofNat xs.length) + 1)).toNat (List.take (Int.ofNat xs.length).toNat xs)) else none).bind fun v10 => bif decide (v8.length + List.length v9.2.2.1 + v10.length <= 65536) then some (aq.ret [AV.os 0 0], [(0, aj.arr 3 (aa) 0 false (v8 ++ v9.2.2.1 ++ v10))]) else none else aV else none else bif op == uS then bif aF ag then bif decide (xs.length <= 2147483648) then bif agi ag xs then az [AV.d (aa).slice (agj ag xs)] else aV else none else none else bif op == xN then bif aF ag then bif decide (xs.length <= 6) then bif decide ((de ag).length <= 2147483640) then bif agJ ag xs then az [AV.d (aa).slice (agK ag xs)] else aV else none else none else none else bif op == xO then bif aF ag then bif decide (xs.length <= 6) then bif decide ((de ag).length <= 2147483640) then bif agG ag xs then az [AV.d (aa).slice (agH ag xs)] else aV else none else none else none else bif aF ag then bif decide (xs.length <= 2147483648) then bif agp ag xs then az [AV.d (aa).slice (agq ag xs)] else aV else none else none := by kernel_rfl
noncomputable def GS : Code := bd f105
noncomputable def Ca : Code := cL (cL (cR (cL (cR (cL (cR (cR (cR (cR (cR (cR (cR (cR (cR (cR (cR (cR (cR (cR (cR (cR (cR (cR (cR (cR (cR (cL (cR (cL (cR (cR (cR GS))))))))))))))))))))))))))))))))
noncomputable def agM : Code := cR (cR (cL (cR (cR (cR (cR (cR (cR (cR (cR (cR (cR (cR (cR (cR (cR (cR (cR (cR (cR (cR (cR (cR (cL (cR (cL (cR (cR (cR GS)))))))))))))))))))))))))))))
noncomputable def dX : Cfg := ⟨149, 8, 0, [(56, [3, 132, 133, 134])], true⟩
noncomputable def wx (r : Option (aq × LHp)) : Option (Int × af) := match cK (.slice aa) r with
 | some (.ret [.d (.slice (.int .i64)) l], []) => some (0, l)
 | some (.panic t c, []) => bif Nat.beq t 131 && !(c == 0) then some (c, []) else none
 | _ => none
theorem Cb {r : Option (aq × LHp)} {p : Int × af} (h : wx r = some p) : cK (.slice aa) r = (yA p.1 p.2).run ah := by
 unfold wx at h
 split at h
 ·rename_i l hq
  cases h
  exact hq
 ·rename_i t c hq
  cases hb : Nat.beq t 131 && !(c == 0) with
  | false => rw [hb] at h; cases h
  | true =>
   rw [hb] at h
   cases h
   rw [ba] at hb
   have ht := bj hb.1
   subst ht
   rw [hq, B3]
   have : (c == 0) = false := by simpa using hb.2
   show _ = (bif c == 0 then _ else _)
   rw [this]
   rfl
 ·cases h
abbrev ek := ak × ak × List (ak) × ak × bn × Unit
noncomputable def Oa (n : ek) (vs : b5) (xs : af) : Option (Int × af) := wx (aC Jk f155 7 [] [fD n vs, .d (.slice aa) xs] [] ah)
noncomputable def WV (n : ek) (vs : b5) (xs : af) : Bool := (Oa n vs xs).isSome
noncomputable def mvC (n : ek) (vs : b5) (xs : af) : Int := ((Oa n vs xs).getD (0, [])).1
noncomputable def mvL (n : ek) (vs : b5) (xs : af) : af := ((Oa n vs xs).getD (0, [])).2
noncomputable def abD : List AV -> LHp -> Tq
 | [.d Y4 (n, vs, _), .d zS xs], [] => .br (WV n vs xs) (yA (mvC n vs xs) (mvL n vs xs)) .no
 | _, _ => .no
theorem UY : bg 155 (ao abD) := by
 have h1 := bD (d := 7) (l := []) Jl func155 call155
 refine aO fun args hs ae aH h' => ?_
 unfold abD at h'
 split at h'
 ·rename_i n vs _ xs
  obtain ⟨hb, h2⟩ := Tq.br_no h'
  refine h1.okO (.slice aa) (Eq.trans ?_ h2)
  unfold WV at hb
  unfold mvC mvL
  cases hq : Oa n vs xs with
  | none => rw [hq] at hb; cases hb
  | some p => exact Cb hq
 ·cases h'
noncomputable def agO : FnE := b8 [(Y4), .slice aa] (ao abD)
theorem UZ : bg 155 agO := bf UY
noncomputable def agP : FnE := b8 [(Y4), .slice aa] (BM (.slice aa) (ao aaM))
noncomputable def agQ : FnE := b8 [(Y4), .slice aa] (BM (.slice aa) (ao aa4))
noncomputable def abE : FnE := b8 [.slice aa, .slice aa] (ao NF)
theorem U0 : bg 153 agP := bf (oQ Ub)
theorem U1 : bg 154 agQ := bf (oQ Up)
theorem GU : bg 77 abE := bf ym
noncomputable def kd : Env := ((((((((((ry.add 155 agO).add 149 (ao IC)).add 59 (ao qO)).add 148 Uz).add 150 afT).add 151 abj).add 152 agw).add 153 agP).add 154 agQ).add 77 abE).add 145 (ao Ug)
theorem Jm : kd.Good := ((((((((((dB.add UZ).add rB).add ig).add yB).add TS).add GN).add UG).add U0).add U1).add GU).add GM
noncomputable def eZ (vs : b5) (gD : Y3.den) : Option (aq × LHp) := (idx vs 1).bind fun u9 => bif decide (List.length gD.2.2.1 <= 2147483648 /\ List.length u9.2.2.1 <= 2147483648) then bif dg gD.2.2.1 u9.2.2.1 == 0 then az [AV.d (aa).slice (gr gD.2.2.1 u9.2.2.1)] else some (aq.panic 131 (dg gD.2.2.1 u9.2.2.1), []) else none
noncomputable def yK (ag : bn) (gD : Y3.den) : Option (aq × LHp) := bif aF ag then bif cJ 2 1 100 (al ag iv []) then bif Int.ofNat (List.length gD.2.2.1) == 4 then bif nR ag gD.2.2.1 (al ag iv []) then bif gR ag gD.2.2.1 (al ag iv []) == 0 then bif tK (al ag iv []) 0 (al ag dq []) then az [AV.d (aa).slice [List.getD gD.2.2.1 0 0, List.getD gD.2.2.1 1 0, qU ag gD.2.2.1 (al ag iv []), qV ag gD.2.2.1 (al ag iv [])]] else aV else some (aq.panic 131 (gR ag gD.2.2.1 (al ag iv [])), []) else none else aV else aV else none
noncomputable def o9 (op : ak) (ag : bn) (gD : Y3.den) : Option (aq × LHp) := bif aF ag then bif decide (List.length gD.2.2.1 <= 2147483648) then bif TQ op ag gD.2.2.1 then az [AV.d (aa).slice (aan op ag gD.2.2.1)] else aV else none else none
noncomputable def ef (gD : Y3.den) : Option (aq × LHp) := az [AV.d (aa).slice gD.2.2.1]
theorem yL (op nm : ak) (ins : List (ak)) (out : ak) (ag : bn) (vs : b5) : aC kd f105 8 [(56, [3, 132, 133, 134])] [fD (op, nm, ins, out, ag, ()) vs] [] ah = bif op == nO then bif decide (ag.length <= 9223372036854775807) then (List.find? fM ag).bind fun v2 => az [AV.d (aa).slice v2.2.2.2.2.2.1.2.1] else none else (idx vs 0).bind fun v1 => bif op == QT then ef v1 else bif op == K5 then ef v1 else bif op == Ii then ef v1 else bif op == [78, 111, 116] then ef v1 else bif op == QO then ef v1 else bif op == QP then ef v1 else bif op == QQ then ef v1 else bif op == [69, 120, 112] then ef v1 else bif op == QR then ef v1 else bif op == QS then ef v1 else bif op == KZ then ef v1 else bif op == DU then ef v1 else bif op == QH then eZ vs v1 else bif op == QI then eZ vs v1 else bif op == QJ then eZ vs v1 else bif op == QK then eZ vs v1 else bif op == QL then eZ vs v1 else bif op == QM then eZ vs v1 else bif op == V7 then eZ vs v1 else bif op == [79, 114] then eZ vs v1 else bif op == V8 then eZ vs v1 else bif op == uP then eZ vs v1 else bif op == xH then eZ vs v1 else bif op == xI then eZ vs v1 else bif op == qJ then (idx vs 1).bind fun v27 => bif decide (List.length v1.2.2.1 <= 2147483648 /\ List.length v27.2.2.1 <= 2147483648) then bif dg v1.2.2.1 v27.2.2.1 == 0 then (idx vs 2).bind fun v30 => bif decide ((gr v1.2.2.1 v27.2.2.1).length <= 2147483648 /\ List.length v30.2.2.1 <= 2147483648) then bif dg (gr v1.2.2.1 v27.2.2.1) v30.2.2.1 == 0 then az [AV.d (aa).slice (gr (gr v1.2.2.1 v27.2.2.1) v30.2.2.1)] else some (aq.panic 131 (dg (gr v1.2.2.1 v27.2.2.1) v30.2.2.1), []) else none else (idx vs 2).bind fun v30 => some (aq.panic 131 (dg v1.2.2.1 v27.2.2.1), []) else none else bif op == K1 then bif decide (ag.length <= 9223372036854775807) then bif qR (aT ag cG (-1)) (Int.ofNat (List.length v1.2.2.1)) then ef v1 else aV else none else bif op == DV then o9 op ag v1 else bif op == DW then o9 op ag v1 else bif op == K0 then o9 op ag v1 else bif op == xJ then o9 op ag v1 else bif op == KY then (idx vs 1).bind fun v33 => bif decide (List.length v1.2.2.1 <= 2147483648 /\ List.length v33.2.2.1 <= 2147483648) then bif yC v1.2.2.1 v33.2.2.1 == 0 then az [AV.d (aa).slice (o4 v1.2.2.1 v33.2.2.1)] else some (aq.panic 131 (yC v1.2.2.1 v33.2.2.1), []) else none else bif op == Ih then bif aF ag then bif decide (2 <= vs.length) then bif tO vs then bif UE ag vs == 0 then az [AV.d (aa).slice (o5 ag vs)] else some (aq.panic 131 (UE ag vs), []) else none else none else none else bif op == AR then bif I3 ag vs v1.2.2.1 then bif I4 ag vs v1.2.2.1 then az [AV.d (aa).slice (agb ag vs v1.2.2.1)] else some (aq.panic 131 (I5 ag vs v1.2.2.1), []) else none else bif op == K2 then yK ag v1 else bif op == K3 then yK ag v1 else bif op == zl1 then bif !Int.ofNat (List.length v1.2.2.1) == 4 then aV else (idx v1.2.2.1 0).bind fun v39 => (idx v1.2.2.1 1).bind fun v40 => some (aq.ret [AV.os 0 0], [(0, aj.arr 3 (aa) 0 false [v39, v40, 1, 1])]) else bif op == K4 then bif !decide (Int.ofNat (List.length v1.2.2.1) >= 2) then aV else (if (0 : Int) <= 1 /\ 1 <= Int.ofNat vs.length /\ Int.ofNat vs.length <= Int.ofNat vs.length then some (List.drop 1 (List.take (Int.ofNat vs.length).toNat vs)) else none).bind fun v40 => (hlp kd dX) Ca _ { fr := aw 8 [(3, AV.d (aa).slice v1.2.2.1), (132, AV.d Y3.slice v40), (133, I (Int.ofNat v40.length)), (134, I 0)], hp := [], nx := 0 } (aQ 1 (aX kd dX [56] (hlp kd dX) agM (aQ 0 (aX kd dX [56] (hlp kd dX) (cR (cR (cR (cR GS)))) (aZ prog 0 f105.results.toList ah))))) else bif WV (op, nm, ins, out, ag, PUnit.unit) vs v1.2.2.1 then bif mvC (op, nm, ins, out, ag, PUnit.unit) vs v1.2.2.1 == 0 then az [AV.d (aa).slice (mvL (op, nm, ins, out, ag, PUnit.unit) vs v1.2.2.1)] else some (aq.panic 131 (mvC (op, nm, ins, out, ag, PUnit.unit) vs v1.2.2.1), []) else none := (bq [56] dX rfl).trans (by obtain ⟨hl, h⟩ := bc kd dX; rw [h]; kernel_rfl)
end
end Go.Proofs.XRT
namespace Go.Vm
theorem Cc {hp : LHp} {a b : AV} {l : List AV} {ts : List Ty} {l' : List AV} (h : x7 hp (a :: b :: l) ts = some l') : ∃ x y r, l' = x :: y :: r := by
 match ts, h with
 | t :: [], h =>
  simp only [x7] at h
  split at h
  ·rename_i h2
   cases h2
  ·cases h
 | t :: u :: ts, h =>
  simp only [x7] at h
  split at h
  ·rename_i x r hx hr
   cases h
   split at hr
   ·cases hr; exact ⟨_, _, _, rfl⟩
   ·cases hr
  ·cases h
def Cd {R : Type} (ts : List Ty) (k : aq -> LHp -> Option R) (aH : LHp) : aq -> Option R
 | .ret (a :: b :: l) => (match x7 (gm aH) (a :: b :: l) ts with | some l' => k (.ret l') [] | none => none)
 | .panic n m => k (.panic n m) []
 | _ => none
def Ce (ts : List Ty) (g : FnE) : FnE := { run := fun args hs k => match hs with
 | [] => g.run args [] fun ae aH => bif fV aH then Cd ts k aH ae else none
 | _ => none }
theorem yM {P : Program} {Γ : Nat -> Option AV} {f : FuncId} {ts : List Ty} {g : FnE} (hg : FnE.OK P Γ f g) : FnE.OK P Γ f (Ce ts g) := by
 refine ⟨fun args hs k => ?_, fun args hs ae2 nc h => ?_⟩
 ·cases hs with
  | cons _ _ => rfl
  | nil =>
   simp only [Ce]
   rw [hg.eq]
   conv => rhs; rw [hg.eq]
   cases g.run args [] (fun a h => some (a, h)) with
   | none => rfl
   | some p =>
    obtain ⟨ae, aH⟩ := p
    simp only [aB]
    cases fV aH with
    | false => rfl
    | true =>
     simp only [ai]
     unfold Cd
     split
     ·split <;> rfl
     ·rfl
     ·rfl
 ·cases hs with
  | cons _ _ => cases h
  | nil =>
   simp only [Ce] at h
   obtain ⟨ae, aH, hrun, h⟩ := hg.nat _ _ _ _ h
   have hF := hg.ok _ _ _ _ hrun
   clear hrun
   cases hA : fV aH with
   | false => rw [hA] at h; cases h
   | true =>
    rw [hA, ai] at h
    refine ⟨hF.1, fun W im μ vals himLt hglob hinv hrep => ?_⟩
    refine (hF.2 W im μ vals himLt hglob hinv hrep).mono ?_
    rintro e w' ⟨nd, h1, bI, bh, ⟨rfl, rfl⟩, S, he⟩
    have eg : ∀ o, (jA (bh o)).blk = none := fun o => by
     cases ho : aA aH o with
     | none => rw [S.inv.dom o ho]; rfl
     | some ob =>
      obtain ⟨T, e, m, z, xs, rfl⟩ := cV hA ho
      rcases S.inv.obj o _ ho with ⟨ad, bp, _⟩ | ⟨_, bb, cap, cells, bp, _⟩ | ⟨_, bb, cap, cs, bp, _⟩ <;> rw [bp] <;> rfl
    have qe : Ev w' bI bh (aA aH) w' (fun k => bI k \/ ∃ o, (bh o).blk = some k) (fun o => jA (bh o)) (aA (gm aH)) := by
     refine ⟨fun _ h => .inl h, fun _ _ => rfl, fun o ob ho => ?_⟩
     obtain ⟨T, e, m, z, xs, rfl⟩ := cV hA ho
     refine ⟨.arr T e m true xs, by rw [iA hA, ho], m, true, xs, rfl, .inl ⟨rfl, rfl, ?_⟩⟩
     cases hm : bh o with
     | row bb cap => exact .inr ⟨bb, cap, rfl, rfl⟩
     | none => exact .inl rfl
     | «at» bb => exact .inl rfl
     | nil ad => exact .inl rfl
     | fz bb cap => exact .inl rfl
    have hobF : ∀ k ob, aA (gm aH) k = some ob -> il w' (fun k => bI k \/ ∃ o, (bh o).blk = some k) (fun o => jA (bh o)) (aA (gm aH)) (jA (bh k)) ob := by
     intro k ob hk
     rw [iA hA] at hk
     cases ho : aA aH k with
     | none => rw [ho] at hk; cases hk
     | some ob0 =>
      obtain ⟨T, e, m, z, xs, rfl⟩ := cV hA ho
      rw [ho] at hk
      cases hk
      rcases S.inv.obj k _ ho with ⟨ad, bp, hx⟩ | ⟨_, bb, cap, cells, bp, J0, h1, h2, h3, h4⟩ | ⟨_, bb, cap, cs, bp, q1, q2, q3, q4, q5⟩
      ·rw [bp]
       exact .inl ⟨ad, rfl, hx⟩
      ·rw [bp]
       refine .inr (.inr ⟨rfl, bb, cap, _, rfl, .inr ⟨k, by rw [bp]; rfl⟩, h1, h2, ?_, aR.mono (aM.mono qe.fim qe.fheap e) _ _ h4⟩)
       have := (cp J0).sub 0 (xs.length * e.size)
       simpa using this
      ·rw [bp]
       exact .inr (.inr ⟨rfl, bb, cap, cs, rfl, .inl q1, q2, q3, q4, aR.mono (aM.mono qe.fim qe.fheap e) _ _ q5⟩)
    have kf : dc W im μ (aA []) w' (fun k => bI k \/ ∃ o, (bh o).blk = some k) Iy (aA []) := by
     refine ⟨S.os, S.tape, S.output, S.grow, S.old, fun b hb => .inl (S.imSub b hb), fun b hb => ?_, fun b hb => ?_, fun _ _ h => (by cases h), fun _ _ h => (by cases h), ⟨fun _ _ h => (by cases h), fun _ _ _ h => (by cases h), fun _ _ => rfl, fun _ _ h => (by cases h)⟩⟩
     ·rcases hb with hb | ⟨o, hb⟩
      ·exact S.imNew b hb
      ·rcases S.own o b hb with h | h
       ·exact .inr (.inl h)
       ·exact .inr (.inr h)
     ·rcases hb with hb | ⟨o, hb⟩
      ·exact S.imLt b hb
      ·exact (S.inv.sep o b hb).2
    cases nd with
    | panic n m =>
     cases h
     exact ⟨_, _, _, _, ⟨rfl, rfl⟩, kf, he⟩
    | ret l =>
     match l, h, he with
     | [], h, _ => cases h
     | [_], h, _ => cases h
     | a :: b :: l, h, ⟨vs, e1, h1⟩ =>
      simp only [Cd] at h
      split at h
      ·rename_i l' zh
       cases h
       have h2 := oR hobF zh (RepFs.ev qe _ _ h1)
       obtain ⟨t1, t2, rest, hd⟩ := Cc zh
       subst hd
       exact ⟨_, _, _, _, ⟨rfl, rfl⟩, kf, vs, e1, h2⟩
      ·cases h
end Go.Vm
namespace Go.Vm
variable {R : Type}
def yN (E : Env) (fn : Func) (depth : Nat) (live : List (Nat × List Nat)) (D : lU) (b : Nat) (ids : List Nat) (hl : Hl) (args : List AV) (hs : LHp) (k : aq -> LHp -> Option R) : Option R :=
 match fn.body, D.gn.body with
 | some (.seq R0 (.seq _ y)), some (.seq _ rest) =>
  bif Nat.ble args.length fn.ntmps && cj hs.length hs then
   exC E ⟨fn.ntmps, depth, hs.length, live, false⟩ R0 ⟨aw depth (number 0 args), hs, hs.length⟩ fun e0 s0 =>
    match e0 with
    | .normal =>
     let caps := evs E s0 D.caps
     bif caps.all (lu s0.hp) && cj s0.nx s0.hp && Nat.beq s0.nx b then
      exH E ⟨fn.ntmps, depth, b, live, false⟩ ids hl y (s0.set D.t15 (.fn (.func D.g) [] caps)) (vV E D rest hs.length fn.results.toList caps k)
     else none
    | _ => none
  else none
 | _, _ => none
theorem Cf {E : Env} (hE : E.Good) {fn : Func} {depth : Nat} {live : List (Nat × List Nat)} {D : lU} {b : Nat} {ids : List Nat} {args : List AV} {hs : LHp} {k : aq -> LHp -> Option R} {r : R}
  (h : yN E fn depth live D b ids (hlp E ⟨fn.ntmps, depth, b, live, false⟩) args hs k = some r) : sZ E fn depth live D args hs k = some r := by
 unfold yN at h
 unfold sZ
 split at h
 ·rename_i R0 q y q2 rest h1 h2
  rw [h1, h2]
  simp only
  cases hb : Nat.ble args.length fn.ntmps && cj hs.length hs with
  | false => rw [hb] at h; cases h
  | true =>
   rw [hb, ai] at h
   rw [ai]
   rw [nM hE] at h ⊢
   rw [AK hE] at h ⊢
   obtain ⟨p, hp, h3⟩ := aS h
   rw [hp]
   obtain ⟨e0, s0⟩ := p
   simp only [aB, pk]
   simp only [pk] at h3
   cases e0 with
   | normal =>
    simp only at h3 ⊢
    cases hc : (evs E s0 D.caps).all (lu s0.hp) && cj s0.nx s0.hp && Nat.beq s0.nx b with
    | false => rw [hc] at h3; cases h3
    | true =>
     rw [hc, ai] at h3
     rw [ba] at hc
     rw [hc.1, ai, bj hc.2]
     rw [xF] at h3
     exact h3
   | _ => cases h3
 ·cases h
end Go.Vm
namespace Go.Vm
theorem gV : ∀ (hp : LHp) (o : Nat), aA (gm hp) o = (match aA hp o with | some (.arr T e m _ xs) => some (.arr T e m true xs) | x => x)
 | [], _ => rfl
 | (a, .arr T e m z xs) :: r, o => by
  simp only [gm, aA]
  cases hb : Nat.beq a o with
  | true => rfl
  | false => exact gV r o
 | (a, .box v) :: r, o => by
  simp only [gm, aA]
  cases hb : Nat.beq a o with
  | true => rfl
  | false => exact gV r o
 | (a, .rc v) :: r, o => by
  simp only [gm, aA]
  cases hb : Nat.beq a o with
  | true => rfl
  | false => exact gV r o
theorem WW {w' : World} {bI : Nat -> Prop} {bh : Mu} {aH : LHp} (inv : jR w' bI bh (aA aH)) :
  Ev w' bI bh (aA aH) w' (fun k => bI k \/ ∃ o, (bh o).blk = some k) (fun o => jA (bh o)) (aA (gm aH)) := by
 refine ⟨fun _ h => .inl h, fun _ _ => rfl, fun o ob ho => ?_⟩
 have na := inv.obj o ob ho
 cases ob with
 | box v =>
  obtain ⟨b, cells, T, bp, _⟩ := na
  exact ⟨.box v, by rw [gV, ho], by show jA (bh o) = bh o; rw [bp]; rfl⟩
 | rc r =>
  obtain ⟨b, x, bp, _⟩ := na
  exact ⟨.rc r, by rw [gV, ho], by show jA (bh o) = bh o; rw [bp]; rfl, rfl⟩
 | arr T e m z xs =>
  refine ⟨.arr T e m true xs, by rw [gV, ho], m, true, xs, rfl, .inl ⟨rfl, rfl, ?_⟩⟩
  cases hm : bh o with
  | row bb cap => exact .inr ⟨bb, cap, rfl, rfl⟩
  | none => exact .inl rfl
  | «at» bb => exact .inl rfl
  | nil ad => exact .inl rfl
  | fz bb cap => exact .inl rfl
theorem agR {w' : World} {bI : Nat -> Prop} {bh : Mu} {aH : LHp} (inv : jR w' bI bh (aA aH)) :
  ∀ k ob, aA (gm aH) k = some ob -> il w' (fun k => bI k \/ ∃ o, (bh o).blk = some k) (fun o => jA (bh o)) (aA (gm aH)) (jA (bh k)) ob := by
 intro k ob hk
 have qe := WW inv
 rw [gV] at hk
 cases ho : aA aH k with
 | none => rw [ho] at hk; cases hk
 | some ob0 =>
  rw [ho] at hk
  cases ob0 with
  | box v =>
   cases hk
   have na := inv.obj k _ ho
   have bp : jA (bh k) = bh k := by obtain ⟨b, cells, T, bp, _⟩ := na; rw [bp]; rfl
   rw [bp]
   exact na.ev qe fun _ _ => rfl
  | rc r =>
   cases hk
   have na := inv.obj k _ ho
   have bp : jA (bh k) = bh k := by obtain ⟨b, x, bp, _⟩ := na; rw [bp]; rfl
   rw [bp]
   exact na.ev qe fun _ _ => rfl
  | arr T e m z xs =>
   cases hk
   rcases inv.obj k _ ho with ⟨ad, bp, hx⟩ | ⟨_, bb, cap, cells, bp, J0, h1, h2, h3, h4⟩ | ⟨_, bb, cap, cs, bp, q1, q2, q3, q4, q5⟩
   ·rw [bp]
    exact .inl ⟨ad, rfl, hx⟩
   ·rw [bp]
    refine .inr (.inr ⟨rfl, bb, cap, _, rfl, .inr ⟨k, by rw [bp]; rfl⟩, h1, h2, ?_, aR.mono (aM.mono qe.fim qe.fheap e) _ _ h4⟩)
    have := (cp J0).sub 0 (xs.length * e.size)
    simpa using this
   ·rw [bp]
    exact .inr (.inr ⟨rfl, bb, cap, cs, rfl, .inl q1, q2, q3, q4, aR.mono (aM.mono qe.fim qe.fheap e) _ _ q5⟩)
theorem U2 {W w' : World} {im bI : Nat -> Prop} {μ bh : Mu} {aH : LHp} (S : dc W im μ (aA []) w' bI bh (aA aH)) : dc W im μ (aA []) w' (fun k => bI k \/ ∃ o, (bh o).blk = some k) Iy (aA []) := by
 refine ⟨S.os, S.tape, S.output, S.grow, S.old, fun b hb => .inl (S.imSub b hb), fun b hb => ?_, fun b hb => ?_, fun _ _ h => (by cases h), fun _ _ h => (by cases h), ⟨fun _ _ h => (by cases h), fun _ _ _ h => (by cases h), fun _ _ => rfl, fun _ _ h => (by cases h)⟩⟩
 ·rcases hb with hb | ⟨o, hb⟩
  ·exact S.imNew b hb
  ·rcases S.own o b hb with h | h
   ·exact .inr (.inl h)
   ·exact .inr (.inr h)
 ·rcases hb with hb | ⟨o, hb⟩
  ·exact S.imLt b hb
  ·exact (S.inv.sep o b hb).2
def GV (ts : List Ty) (g : FnE) : FnE := { run := fun args hs k => match hs with
 | [] => g.run args [] fun ae aH => Cd ts k aH ae
 | _ => none }
theorem Ob {P : Program} {Γ : Nat -> Option AV} {f : FuncId} {ts : List Ty} {g : FnE} (hg : FnE.OK P Γ f g) : FnE.OK P Γ f (GV ts g) := by
 refine ⟨fun args hs k => ?_, fun args hs ae2 nc h => ?_⟩
 ·cases hs with
  | cons _ _ => rfl
  | nil =>
   simp only [GV]
   rw [hg.eq]
   conv => rhs; rw [hg.eq]
   cases g.run args [] (fun a h => some (a, h)) with
   | none => rfl
   | some p =>
    obtain ⟨ae, aH⟩ := p
    simp only [aB]
    unfold Cd
    split
    ·split <;> rfl
    ·rfl
    ·rfl
 ·cases hs with
  | cons _ _ => cases h
  | nil =>
   simp only [GV] at h
   obtain ⟨ae, aH, hrun, h⟩ := hg.nat _ _ _ _ h
   have hF := hg.ok _ _ _ _ hrun
   clear hrun
   refine ⟨hF.1, fun W im μ vals himLt hglob hinv hrep => ?_⟩
   refine (hF.2 W im μ vals himLt hglob hinv hrep).mono ?_
   rintro e w' ⟨nd, h1, bI, bh, ⟨rfl, rfl⟩, S, he⟩
   have qe := WW S.inv
   have hobF := agR S.inv
   have kf := U2 S
   cases nd with
   | panic n m =>
    cases h
    exact ⟨_, _, _, _, ⟨rfl, rfl⟩, kf, he⟩
   | ret l =>
    match l, h, he with
    | [], h, _ => cases h
    | [_], h, _ => cases h
    | a :: b :: l, h, ⟨vs, e1, h1⟩ =>
     simp only [Cd] at h
     split at h
     ·rename_i l' zh
      cases h
      have h2 := oR hobF zh (RepFs.ev qe _ _ h1)
      obtain ⟨t1, t2, rest, hd⟩ := Cc zh
      subst hd
      exact ⟨_, _, _, _, ⟨rfl, rfl⟩, kf, vs, e1, h2⟩
     ·cases h
def gW (ts : List Ty) (r : Option (aq × LHp)) : Option (aq × LHp) := match r with
 | some (ae, aH) => Cd ts ah aH ae
 | none => none
theorem FnE.OK.okBQ {E : Env} {fn : Func} {depth : Nat} {live : List (Nat × List Nat)} {P : Program} {Γ : Nat -> Option AV} {f : FuncId} (h : FnE.OK P Γ f (au E fn depth live)) (ts : List Ty) {args : List AV} {aH : LHp} {ae : aq} (e : gW ts (aC E fn depth live args [] ah) = some (ae, aH)) : FnH P Γ f args (aA []) (fun nd h1 => nd = ae /\ h1 = aA aH) := by
 refine (Ob (ts := ts) h).ok args [] ae aH ?_
 simp only [GV]
 rw [h.eq]
 have e' : gW ts ((au E fn depth live).run args [] fun a h => some (a, h)) = some (ae, aH) := e
 cases hr : (au E fn depth live).run args [] (fun a h => some (a, h)) with
 | none => rw [hr] at e'; cases e'
 | some p => rw [hr] at e'; exact e'
end Go.Vm
namespace Go.Vm
theorem wy {w : World} {im : Nat -> Prop} {μ : Mu} {hp : Hp} : ∀ {args : List AV} {vals : List Value}, RepFs w im μ hp args vals -> ∀ (e : Ty) (xs : List e.den), AV.d (.slice e) xs ∈ args -> xs.length <= maxLen
 | [], _, _, _, _, h => by cases h
 | a :: l, vs, hr, e, xs, h => by
  simp only [RepFs] at hr
  obtain ⟨v, us, _, h1, _, h2⟩ := hr
  rcases List.mem_cons.1 h with rfl | h
  ·simp only [RepA] at h1
   obtain ⟨a, cap, _, h3, h4, _⟩ := h1
   exact Nat.le_trans h3 h4
  ·exact wy h2 e xs h
theorem FnH.len {P : Program} {Γ : Nat -> Option AV} {f : FuncId} {args : List AV} {h0 : Hp} {R : aq -> Hp -> Prop} (hc : ∀ (vs : Array Value) (w : World), (callFunc f vs).run P w = .ok (.enter f vs) w)
  (h : (∀ (e : Ty) (xs : List e.den), AV.d (.slice e) xs ∈ args -> xs.length <= maxLen) -> FnH P Γ f args h0 R) : FnH P Γ f args h0 R :=
 ⟨hc, fun W im μ vals a b c d => (h (wy d)).2 W im μ vals a b c d⟩
end Go.Vm
set_option maxRecDepth 100000
set_option maxHeartbeats 4000000
namespace Go.Proofs.XRT
open Go.Vm Go Tryz IntKind
noncomputable section
noncomputable def dmR (n : ek) (vs : b5) : Option (Int × af) := wx (aC kd f105 8 [(56, [3, 132, 133, 134])] [fD n vs] [] ah)
noncomputable def Oc (n : ek) (vs : b5) : Bool := (dmR n vs).isSome
noncomputable def zm (n : ek) (vs : b5) : Int := ((dmR n vs).getD (0, [])).1
noncomputable def p6 (n : ek) (vs : b5) : af := ((dmR n vs).getD (0, [])).2
noncomputable def abG : List AV -> LHp -> Tq
 | [.d Y4 (n, vs, _)], [] => .br (Oc n vs) (yA (zm n vs) (p6 n vs)) .no
 | _, _ => .no
theorem U3 : bg 105 (ao abG) := by
 have h1 := bD (d := 8) (l := [(56, [3, 132, 133, 134])]) Jm func105 call105
 refine aO fun args hs ae aH h' => ?_
 unfold abG at h'
 split at h'
 ·rename_i n vs _
  obtain ⟨hb, h2⟩ := Tq.br_no h'
  refine h1.okO (.slice aa) (Eq.trans ?_ h2)
  unfold Oc at hb
  unfold zm p6
  cases hq : dmR n vs with
  | none => rw [hq] at hb; cases hb
  | some p => exact Cb hq
 ·cases h'
noncomputable def agS : FnE := b8 [(Y4)] (ao abG)
theorem U4 : bg 105 agS := bf U3
def Od : List AV -> LHp -> Tq
 | [.d zS xs], [] => .leaf (.ret [I (aJ xs), I (ay xs)]) []
 | _, _ => .no
theorem yO : bg 60 (ao Od) := by
 refine aO fun args hs ae aH h' => ?_
 unfold Od at h'
 split at h'
 ·rename_i xs
  refine FnH.len call60 fun hl => pT.ok _ _ _ _ ?_
  have h1 : xs.length <= maxLen := hl (.int .i64) xs (List.mem_singleton.2 rfl)
  have h2 : (Tq.br (decide (xs.length <= maxLen)) (.leaf (.ret [I (aJ xs), I (ay xs)]) []) .no).run ah = some (ae, aH) := by
   rw [aD h1]
   exact h'
  exact h2
 ·cases h'
noncomputable def m7 : Env := (((((ry.add 102 (ao MS)).add 104 (b8 [(Y4)] (ao aaV))).add 105 agS).add 106 (b8 [(Y4), aa] (ao aa0))).add 107 (ao uV)).add 60 (ao Od)
theorem p7 : m7.Good := (((((dB.add MT).add (bf Ul)).add U4).add (bf Un)).add jY).add yO
noncomputable def ouR : FnE := oD m7 f58 7 [(5, [1, 2, 4, 5, 26, 27, 28])] It
theorem Oe : bg 58 ouR := AM p7 (DN (D := It) p7 bO func58 call58 rfl rfl (by decide +kernel) rfl func100 call100 rfl rfl (by decide +kernel))
noncomputable def Of : Code := bd f58
noncomputable def EA : Code := cL (cL (cR (cL (cR (cR (cR (cR Of)))))))
noncomputable def ke : Cfg := ⟨69, 7, 3, [(5, [1, 2, 4, 5, 26, 27, 28])], false⟩
theorem agT (hl : Hl) (op nm : ak) (ins : List (ak)) (out : ak) (ag : bn) (vs : b5) : yN m7 f58 7 [(5, [1, 2, 4, 5, 26, 27, 28])] It 3 [5] hl [cO op nm ins out ag, .d (.slice (Y3)) vs] [] ah = bif decide (ins.length <= 9223372036854775807) && (aF ag && l7 ag) then bif BO op ins out ag != 0 then az [(AV.d Ty.str []).pr ((I 0).pr (AV.nils.pr (AV.d Ty.unit PUnit.unit))), I (BO op ins out ag)] else bif !Int.ofNat vs.length == Int.ofNat ins.length then az [(AV.d Ty.str []).pr ((I 0).pr (AV.nils.pr (AV.d Ty.unit PUnit.unit))), I 4] else hl EA _ { fr := aw 7 [(1, AV.d Y3.slice vs), (2, AV.op 0 [] 0), (4, AV.op 1 [] 0), (5, AV.op 2 [] 0), (26, AV.d Y3.slice vs), (27, I (Int.ofNat vs.length)), (28, I 0)], hp := [(0, aj.box (AV.d Y2 (op, nm, ins, out, ag, PUnit.unit))), (1, aj.box ((AV.d Ty.str []).pr ((I 0).pr (AV.nils.pr (AV.d Ty.unit PUnit.unit))))), (2, aj.box (I 0))], nx := 6 } (aQ 0 (aX m7 ke [5] hl (cR (cR (cR (cR (cR Of))))) (vV m7 It (cR (bd f100)) 0 f58.results.toList [.op 1 [] 0, .op 2 [] 0] ah))) else none := by kernel_rfl
noncomputable def KOu : AEx -> LSt -> Option (aq × LHp) := (aQ 0 (aX m7 ke [5] (hlp m7 ke) (cR (cR (cR (cR (cR Of))))) (vV m7 It (cR (bd f100)) 0 f58.results.toList [.op 1 [] 0, .op 2 [] 0] ah)))
def agU (n : ek) : LHp := [(0, .box (.d (Y2) n)), (1, .box ((AV.d Ty.str []).pr ((I 0).pr (AV.nils.pr (AV.d Ty.unit PUnit.unit))))), (2, .box (I 0))]
def EB (n : ek) (vs : b5) (i : Int) : LSt := { fr := aw 7 [(1, .d (.slice (Y3)) vs), (2, .op 0 [] 0), (4, .op 1 [] 0), (5, .op 2 [] 0), (26, .d (.slice (Y3)) vs), (27, I (Int.ofNat vs.length)), (28, I i)], hp := agU n, nx := 6 }
theorem agV (op nm : ak) (ins : List (ak)) (out : ak) (ag : bn) (vs : b5) (i : Int) (n : Nat) {R : Type} (k : AEx -> LSt -> Option R) : lp m7 ke EA (n + 1) (EB (op, nm, ins, out, ag, ()) vs i) k = bif decide (i < Int.ofNat vs.length) then (idx vs i).bind fun v1 => bif !bS v1.2.1 0 then k AEx.ret { fr := aw 7 [(1, AV.d Y3.slice vs), (2, AV.op 0 [] 0), (4, AV.op 1 [] 0), (5, AV.op 2 [] 0), (7, AV.op 6 [] 0), (26, AV.d Y3.slice vs), (27, I (Int.ofNat vs.length)), (28, I i), (29, B true), (30, AV.ip Y3 v1), (31, AV.d Y3 v1), (32, AV.op 6 [1] 1), (33, I v1.2.1), (34, B (bS v1.2.1 0)), (35, B true), (36, (AV.d Ty.str []).pr ((I 0).pr (AV.nils.pr (AV.d Ty.unit PUnit.unit))))], hp := [(2, aj.box (I 5)), (1, aj.box ((AV.d Ty.str []).pr ((I 0).pr (AV.nils.pr (AV.d Ty.unit PUnit.unit))))), (6, aj.box (AV.d Y3 v1)), (6, aj.box ((AV.d Ty.str []).pr ((I 0).pr (AV.nils.pr (AV.d Ty.unit PUnit.unit))))), (0, aj.box (AV.d Y2 (op, nm, ins, out, ag, PUnit.unit))), (1, aj.box ((AV.d Ty.str []).pr ((I 0).pr (AV.nils.pr (AV.d Ty.unit PUnit.unit))))), (2, aj.box (I 0))], nx := 7 } else bif ay v1.2.2.1 != 0 then k (AEx.panic 131 (ay v1.2.2.1)) { fr := aw 7 [(1, AV.d Y3.slice vs), (2, AV.op 0 [] 0), (4, AV.op 1 [] 0), (5, AV.op 2 [] 0), (7, AV.op 6 [] 0), (8, I (aJ v1.2.2.1)), (9, I (ay v1.2.2.1)), (26, AV.d Y3.slice vs), (27, I (Int.ofNat vs.length)), (28, I i), (29, B true), (30, AV.ip Y3 v1), (31, AV.d Y3 v1), (32, AV.op 6 [1] 1), (33, I v1.2.1), (34, B (bS v1.2.1 0)), (35, B false), (37, AV.tup [I (aJ v1.2.2.1), I (ay v1.2.2.1)]), (38, AV.op 6 [2] 2), (39, AV.d (aa).slice v1.2.2.1), (40, AV.tup [I (aJ v1.2.2.1), I (ay v1.2.2.1)]), (41, I (aJ v1.2.2.1)), (42, I (ay v1.2.2.1)), (43, I (ay v1.2.2.1))], hp := [(6, aj.box (AV.d Y3 v1)), (6, aj.box ((AV.d Ty.str []).pr ((I 0).pr (AV.nils.pr (AV.d Ty.unit PUnit.unit))))), (0, aj.box (AV.d Y2 (op, nm, ins, out, ag, PUnit.unit))), (1, aj.box ((AV.d Ty.str []).pr ((I 0).pr (AV.nils.pr (AV.d Ty.unit PUnit.unit))))), (2, aj.box (I 0))], nx := 7 } else lp m7 ke EA n (EB (op, nm, ins, out, ag, ()) vs (i64.wrap (i + 1))) k else k (AEx.exit 0) { fr := aw 7 [(1, AV.d Y3.slice vs), (2, AV.op 0 [] 0), (4, AV.op 1 [] 0), (5, AV.op 2 [] 0), (26, AV.d Y3.slice vs), (27, I (Int.ofNat vs.length)), (28, I i), (29, B false)], hp := [(0, aj.box (AV.d Y2 (op, nm, ins, out, ag, PUnit.unit))), (1, aj.box ((AV.d Ty.str []).pr ((I 0).pr (AV.nils.pr (AV.d Ty.unit PUnit.unit))))), (2, aj.box (I 0))], nx := 6 } := by kernel_rfl
theorem aju (op nm : ak) (ins : List (ak)) (out : ak) (ag : bn) (vs : b5) (i : Int) : KOu (.exit 0) { fr := aw 7 [(1, .d (.slice (Y3)) vs), (2, .op 0 [] 0), (4, .op 1 [] 0), (5, .op 2 [] 0), (26, .d (.slice (Y3)) vs), (27, I (Int.ofNat vs.length)), (28, I i), (29, B false)], hp := agU (op, nm, ins, out, ag, ()), nx := 6 } = bif yw op ag vs then bif mZ op ag vs == 0 then bif Oc (op, nm, ins, out, ag, PUnit.unit) vs then bif zm (op, nm, ins, out, ag, PUnit.unit) vs == 0 then bif ay (p6 (op, nm, ins, out, ag, PUnit.unit) vs) != 0 then az [(AV.d Ty.str []).pr ((I 0).pr (AV.nils.pr (AV.d Ty.unit PUnit.unit))), I (ay (p6 (op, nm, ins, out, ag, PUnit.unit) vs))] else bif aF ag then bif kc ag (pZ op ag vs) then bif decide ((p6 (op, nm, ins, out, ag, PUnit.unit) vs).length <= 2147483648) then some (aq.ret [(AV.d Ty.str out).pr ((I (pZ op ag vs)).pr ((AV.os 0 0).pr (AV.d Ty.unit PUnit.unit))), I 0], [(0, aj.arr 3 (aa) 0 false (p6 (op, nm, ins, out, ag, PUnit.unit) vs))]) else none else az [(AV.d Ty.str []).pr ((I 0).pr (AV.nils.pr (AV.d Ty.unit PUnit.unit))), I 4] else none else az [(AV.d Ty.str []).pr ((I 0).pr (AV.nils.pr (AV.d Ty.unit PUnit.unit))), I (zm (op, nm, ins, out, ag, PUnit.unit) vs)] else none else az [(AV.d Ty.str []).pr ((I 0).pr (AV.nils.pr (AV.d Ty.unit PUnit.unit))), I (mZ op ag vs)] else none := by kernel_rfl
def Cg : b5 -> Int
 | [] => 0
 | v :: r => bif !bS v.2.1 0 then 5 else bif ay v.2.2.1 != 0 then ay v.2.2.1 else Cg r
def zvO : AV := (AV.d Ty.str []).pr ((I 0).pr (AV.nils.pr (AV.d Ty.unit PUnit.unit)))
def CV (c : Int) : Option (aq × LHp) := some (.ret [zvO, I c], [])
noncomputable def ouX (op nm : ak) (ins : List (ak)) (out : ak) (ag : bn) (vs : b5) : Option (aq × LHp) :=
 bif yw op ag vs then (bif mZ op ag vs == 0 then (bif Oc (op, nm, ins, out, ag, ()) vs then (bif zm (op, nm, ins, out, ag, ()) vs == 0 then (bif ay (p6 (op, nm, ins, out, ag, ()) vs) != 0 then CV (ay (p6 (op, nm, ins, out, ag, ()) vs)) else (bif aF ag then (bif kc ag (pZ op ag vs) then (bif decide ((p6 (op, nm, ins, out, ag, ()) vs).length <= 2147483648) then some (aq.ret [(AV.d Ty.str out).pr ((I (pZ op ag vs)).pr ((AV.os 0 0).pr (AV.d Ty.unit PUnit.unit))), I 0], [(0, aj.arr 3 aa 0 false (p6 (op, nm, ins, out, ag, ()) vs))]) else none) else CV 4) else none)) else CV (zm (op, nm, ins, out, ag, ()) vs)) else none) else CV (mZ op ag vs)) else none
theorem agX {op nm : ak} {ins : List (ak)} {out : ak} {ag : bn} {vs : b5} (hl : vs.length <= 2147483648) : lp m7 ke EA fu (EB (op, nm, ins, out, ag, ()) vs 0) KOu = bif Cg vs != 0 then CV (Cg vs) else ouX op nm ins out ag vs := by
 have hm : maxLen = 9223372036854775807 := by decide
 have sc : ∀ (l : b5), cg (fun (_ : Unit) (v : (Y3).den) => bif !bS v.2.1 0 then Nx.stop (CV 5) else bif ay v.2.2.1 != 0 then Nx.stop (CV (ay v.2.2.1)) else Nx.go ()) (fun _ => ouX op nm ins out ag vs) l () = bif Cg l != 0 then CV (Cg l) else ouX op nm ins out ag vs := by
  intro l
  induction l with
  | nil => rfl
  | cons v l ih =>
   rw [cg, Cg]
   cases bS v.2.1 0 with
   | false => rfl
   | true =>
    rw [Bool.not_true, ax, ax]
    cases h : ay v.2.2.1 != 0 with
    | true => rw [ai, ai, h]; rfl
    | false => rw [ax, ax]; exact ih
 refine (cq (xs := vs) (T := fun n s => lp m7 ke EA n s KOu) (st := fun (i : Int) (_ : Unit) => EB (op, nm, ins, out, ag, ()) vs i) (f := fun (_ : Unit) (v : (Y3).den) => bif !bS v.2.1 0 then Nx.stop (CV 5) else bif ay v.2.2.1 != 0 then Nx.stop (CV (ay v.2.2.1)) else Nx.go ()) (fin := fun (_ : Unit) => ouX op nm ins out ag vs) (fun (_ : Nat) (_ : Unit) => True) (by omega) ?_ ?_ (a := ()) trivial).trans (sc vs)
 ·intro i _ v n _ hi gx gi hw hd
  have hs := agV op nm ins out ag vs (i : Int) n KOu
  rw [hd, ai, gi, aB] at hs
  cases c1 : bS v.2.1 0 with
  | false =>
   rw [c1, Bool.not_false, ai] at hs
   exact .inr ⟨_, rfl, hs.trans (by kernel_rfl)⟩
  | true =>
   rw [c1, Bool.not_true, ax] at hs
   simp only [Bool.not_true, ax]
   cases c2 : ay v.2.2.1 != 0 with
   | true =>
    rw [c2, ai] at hs
    exact .inr ⟨_, rfl, hs.trans (by kernel_rfl)⟩
   | false =>
    rw [c2, ax, hw] at hs
    exact .inl ⟨(), rfl, trivial, hs⟩
 ·intro _ n _ hd
  show lp _ _ _ (n + 1) (EB (op, nm, ins, out, ag, ()) vs (vs.length : Int)) _ = _
  rw [agV, hd, ax]
  exact aju op nm ins out ag vs (vs.length : Int)
theorem ajv (n : ek) (vs : b5) : hlp m7 ke EA (aq × LHp) (EB n vs 0) KOu = lp m7 ke EA fu (EB n vs 0) KOu := rfl
noncomputable def Jn (n : ek) (vs : b5) : Int := bif BO n.1 n.2.2.1 n.2.2.2.1 n.2.2.2.2.1 != 0 then BO n.1 n.2.2.1 n.2.2.2.1 n.2.2.2.2.1 else bif !(Int.ofNat vs.length == Int.ofNat n.2.2.1.length) then 4 else bif Cg vs != 0 then Cg vs else bif mZ n.1 n.2.2.2.2.1 vs == 0 then (bif zm n vs == 0 then (bif ay (p6 n vs) != 0 then ay (p6 n vs) else bif kc n.2.2.2.2.1 (pZ n.1 n.2.2.2.2.1 vs) then 0 else 4) else zm n vs) else mZ n.1 n.2.2.2.2.1 vs
noncomputable def PU (n : ek) (vs : b5) : Bool := (decide (n.2.2.1.length <= 2147483648) && (aF n.2.2.2.2.1 && l7 n.2.2.2.2.1)) && ((BO n.1 n.2.2.1 n.2.2.2.1 n.2.2.2.2.1 != 0 || (!(Int.ofNat vs.length == Int.ofNat n.2.2.1.length) || (Cg vs != 0 || (yw n.1 n.2.2.2.2.1 vs && (!(mZ n.1 n.2.2.2.2.1 vs == 0) || Oc n vs))))))
noncomputable def Og (n : ek) (vs : b5) : (Y3).den := bif Jn n vs == 0 then (n.2.2.2.1, pZ n.1 n.2.2.2.2.1 vs, p6 n vs, ()) else ([], 0, [], ())
def U5 (r : Option (aq × LHp)) : Option (aq × LHp) := match r with
 | some (ae, aH) => bif fV aH then Cd [(Y3), aa] ah aH ae else none
 | none => none
theorem U6 (out : ak) (t : Int) (l : af) : U5 (some (aq.ret [(AV.d Ty.str out).pr ((I t).pr ((AV.os 0 0).pr (AV.d Ty.unit PUnit.unit))), I 0], [(0, aj.arr 3 aa 0 false l)])) = some (.ret [.d (Y3) ((out, t, l, ()) : (Y3).den), I 0], []) := rfl
theorem jH {c : Int} (h : (c != 0) = true) : (c == 0) = false := by
 simpa using h
theorem abH {op nm : ak} {ins : List (ak)} {out : ak} {ag : bn} {vs : b5} (hg : PU (op, nm, ins, out, ag, ()) vs = true) :
  ∃ p, yN m7 f58 7 [(5, [1, 2, 4, 5, 26, 27, 28])] It 3 [5] (hlp m7 ke) [cO op nm ins out ag, .d (.slice (Y3)) vs] [] ah = some p /\ U5 (some p) = some (.ret [.d (Y3) (Og (op, nm, ins, out, ag, ()) vs), I (Jn (op, nm, ins, out, ag, ()) vs)], []) := by
 unfold PU at hg
 simp only [ba] at hg
 obtain ⟨⟨g1, g2, g3⟩, g5⟩ := hg
 have g1 : ins.length <= 2147483648 := aU g1
 have er : ∀ {c : Int}, (c == 0) = false -> Jn (op, nm, ins, out, ag, ()) vs = c -> U5 (CV c) = some (.ret [.d (Y3) (Og (op, nm, ins, out, ag, ()) vs), I (Jn (op, nm, ins, out, ag, ()) vs)], []) := fun hc he => by
  unfold Og
  rw [he, hc]
  rfl
 rw [agT, aD (show ins.length <= 9223372036854775807 by omega), g2, g3, Bool.and_self, Bool.and_self, ai]
 have eC : Jn (op, nm, ins, out, ag, ()) vs = bif BO op ins out ag != 0 then BO op ins out ag else bif !(Int.ofNat vs.length == Int.ofNat ins.length) then 4 else bif Cg vs != 0 then Cg vs else bif mZ op ag vs == 0 then (bif zm (op, nm, ins, out, ag, ()) vs == 0 then (bif ay (p6 (op, nm, ins, out, ag, ()) vs) != 0 then ay (p6 (op, nm, ins, out, ag, ()) vs) else bif kc ag (pZ op ag vs) then 0 else 4) else zm (op, nm, ins, out, ag, ()) vs) else mZ op ag vs := rfl
 cases c1 : BO op ins out ag != 0 with
 | true =>
  rw [c1, ai] at eC
  exact ⟨_, rfl, er (jH c1) eC⟩
 | false =>
  rw [c1, ax] at eC
  cases c2 : Int.ofNat vs.length == Int.ofNat ins.length with
  | false =>
   rw [c2, Bool.not_false, ai] at eC
   exact ⟨_, rfl, er rfl eC⟩
  | true =>
   rw [c2, Bool.not_true, ax] at eC
   have hlen : vs.length <= 2147483648 := by
    have := eq_of_beq c2
    simp only [aK] at this
    omega
   have h9 := (ajv (op, nm, ins, out, ag, ()) vs).trans (agX (op := op) (nm := nm) (ins := ins) (out := out) (ag := ag) hlen)
   rw [ax, Bool.not_true, ax]
   cases c3 : Cg vs != 0 with
   | true =>
    rw [c3, ai] at h9 eC
    exact ⟨_, h9, er (jH c3) eC⟩
   | false =>
    rw [c3, ax] at h9 eC
    rw [c1, c2, c3] at g5
    simp only [Bool.not_true, Bool.false_or, ba] at g5
    obtain ⟨g6, g7⟩ := g5
    unfold ouX at h9
    have g6 : yw op ag vs = true := g6
    rw [g6, ai] at h9
    cases c4 : mZ op ag vs == 0 with
    | false =>
     rw [c4, ax] at h9 eC
     exact ⟨_, h9, er c4 eC⟩
    | true =>
     rw [c4, ai] at h9 eC
     have g7 : Oc (op, nm, ins, out, ag, ()) vs = true := by
      have g7' : (!(mZ op ag vs == 0) || Oc (op, nm, ins, out, ag, ()) vs) = true := g7
      rw [c4] at g7'
      exact g7'
     rw [g7, ai] at h9
     cases c5 : zm (op, nm, ins, out, ag, ()) vs == 0 with
     | false =>
      rw [c5, ax] at h9 eC
      exact ⟨_, h9, er c5 eC⟩
     | true =>
      rw [c5, ai] at h9 eC
      cases c6 : ay (p6 (op, nm, ins, out, ag, ()) vs) != 0 with
      | true =>
       rw [c6, ai] at h9 eC
       exact ⟨_, h9, er (jH c6) eC⟩
      | false =>
       have h6 := (eQ (show ay (p6 (op, nm, ins, out, ag, ()) vs) = 0 by simpa using c6)).2.1
       rw [c6, ax, g2, ai, aD (show (p6 (op, nm, ins, out, ag, ()) vs).length <= 2147483648 by omega), ai] at h9
       rw [c6, ax] at eC
       cases c7 : kc ag (pZ op ag vs) with
       | false =>
        rw [c7, ax] at h9 eC
        exact ⟨_, h9, er rfl eC⟩
       | true =>
        rw [c7, ai] at h9 eC
        refine ⟨_, h9, (U6 _ _ _).trans ?_⟩
        unfold Og
        rw [eC]
        rfl
noncomputable def ouF : List AV -> LHp -> Tq
 | [.d Y2 n, .d (.slice Y3) vs], [] => .br (PU n vs) (.leaf (.ret [.d (Y3) (Og n vs), I (Jn n vs)]) []) .no
 | _, _ => .no
theorem abI : bg 58 (ao ouF) := by
 have h1 : bg 58 (Ce [(Y3), aa] ouR) := yM Oe
 refine aO fun args hs ae aH h' => ?_
 unfold ouF at h'
 split at h'
 ·rename_i n vs
  obtain ⟨hg, h2⟩ := Tq.br_no h'
  obtain ⟨op, nm, ins, out, ag, u⟩ := n
  obtain ⟨p, h3, h4⟩ := abH hg
  refine h1.ok _ _ _ _ (Eq.trans ?_ (h4.trans h2))
  simp only [Ce]
  rw [Oe.eq]
  have h5 : ouR.run [cO op nm ins out ag, .d (.slice (Y3)) vs] [] (fun a h => some (a, h)) = some p := Cf p7 h3
  rw [h5]
  obtain ⟨ae0, J7⟩ := p
  rfl
 ·cases h'
noncomputable def ouE : FnE := b8 [(Y2), .slice (Y3)] (ao ouF)
theorem abJ : bg 58 ouE := bf abI
noncomputable def WX : Code := bd f39
noncomputable def yP : Code := cL (cL (cR (cL (cR (cR WX)))))
noncomputable def gX : Cfg := ⟨33, 6, 0, [(3, [2, 4, 6, 9, 10, 11])], true⟩
def abK : List AV -> LHp -> Tq
 | [.d Y0 x], [] => .br (decide (List.length x.2.1 <= maxLen /\ List.length x.2.2.1 <= maxLen)) (.leaf (.ret [I (jw x.1 x.2.1 x.2.2.1)]) []) .no
 | _, _ => .no
theorem U7 : bg 57 (ao abK) := by
 refine aO fun args hs ae aH h' => ?_
 unfold abK at h'
 split at h'
 ·rename_i x
  obtain ⟨t, dims, data, u⟩ := x
  exact FA.ok _ _ _ _ h'
 ·cases h'
noncomputable def m8 : Env := (ry.add 58 ouE).add 57 (ao abK)
theorem Jo : m8.Good := (dB.add abJ).add U7
noncomputable def U8 : AEx -> LSt -> Option (aq × LHp) := (aQ 0 (aX m8 gX [3] (hlp m8 gX) (cR (cR (cR WX))) (aZ prog 0 f39.results.toList ah)))
theorem abL (n : ek) (ts : List (Y0).den) : aC m8 f39 6 [(3, [2, 4, 6, 9, 10, 11])] [.d (Y2) n, .d (.slice (Y0)) ts] [] ah = (hlp m8 gX) yP _ { fr := aw 6 [(2, AV.op 0 [] 0), (4, AV.op 1 [] 0), (6, AV.nils), (9, AV.d Y0.slice ts), (10, I (Int.ofNat ts.length)), (11, I 0)], hp := [(0, aj.box (AV.d Y2 n)), (1, aj.box ((AV.d Ty.str []).pr ((I 0).pr (AV.nils.pr (AV.d Ty.unit PUnit.unit)))))], nx := 2 } U8 := (bq [3] gX rfl).trans (by obtain ⟨hl, h⟩ := bc m8 gX; rw [h]; kernel_rfl)
def U9 (n : ek) : LHp := [(0, .box (.d (Y2) n)), (1, .box ((AV.d Ty.str []).pr ((I 0).pr (AV.nils.pr (AV.d Ty.unit PUnit.unit)))))]
def wz (n : ek) (ts : List (Y0).den) (i : Int) : LSt := { fr := aw 6 [(2, AV.op 0 [] 0), (4, AV.op 1 [] 0), (6, AV.nils), (9, .d (.slice (Y0)) ts), (10, I (Int.ofNat ts.length)), (11, I i)], hp := U9 n, nx := 2 }
def Ch (o : b5) (n : ek) (ts : List (Y0).den) (i : Int) : LSt := { fr := aw 6 [(2, AV.op 0 [] 0), (4, AV.op 1 [] 0), (6, AV.os 2 0), (9, .d (.slice (Y0)) ts), (10, I (Int.ofNat ts.length)), (11, I i)], hp := U9 n ++ [(2, .arr 47 (Y3) 0 false o)], nx := 3 }
theorem Oh (x : ek) (ts : List (Y0).den) (i : Int) (n : Nat) {R : Type} (k : AEx -> LSt -> Option R) : lp m8 gX yP (n + 1) (wz x ts i) k = bif decide (i < Int.ofNat ts.length) then (idx ts i).bind fun v1 => bif decide (List.length v1.2.1 <= 9223372036854775807 /\ List.length v1.2.2.1 <= 9223372036854775807) then bif jw v1.1 v1.2.1 v1.2.2.1 != 0 then k AEx.ret { fr := aw 6 [(2, AV.op 0 [] 0), (4, AV.op 1 [] 0), (5, I 1), (6, AV.nils), (8, AV.op 2 [] 0), (9, AV.d Y0.slice ts), (10, I (Int.ofNat ts.length)), (11, I i), (12, B true), (13, AV.ip Y0 v1), (14, AV.d Y0 v1), (15, AV.d Y0 v1), (16, I (jw v1.1 v1.2.1 v1.2.2.1)), (17, B true), (18, (AV.d Ty.str []).pr ((I 0).pr (AV.nils.pr (AV.d Ty.unit PUnit.unit))))], hp := [(1, aj.box ((AV.d Ty.str []).pr ((I 0).pr (AV.nils.pr (AV.d Ty.unit PUnit.unit))))), (2, aj.box (AV.d Y0 v1)), (2, aj.box ((I 0).pr (AV.nils.pr (AV.nils.pr (AV.d Ty.unit PUnit.unit))))), (0, aj.box (AV.d Y2 x)), (1, aj.box ((AV.d Ty.str []).pr ((I 0).pr (AV.nils.pr (AV.d Ty.unit PUnit.unit)))))], nx := 3 } else lp m8 gX yP n (Ch [([], v1.1, v1.2.1, ())] x ts (i64.wrap (i + 1))) k else none else k (AEx.exit 0) { fr := aw 6 [(2, AV.op 0 [] 0), (4, AV.op 1 [] 0), (6, AV.nils), (9, AV.d Y0.slice ts), (10, I (Int.ofNat ts.length)), (11, I i), (12, B false)], hp := [(0, aj.box (AV.d Y2 x)), (1, aj.box ((AV.d Ty.str []).pr ((I 0).pr (AV.nils.pr (AV.d Ty.unit PUnit.unit)))))], nx := 2 } := by kernel_rfl
theorem Oi (v : (Y3).den) (o : b5) (x : ek) (ts : List (Y0).den) (i : Int) (n : Nat) {R : Type} (k : AEx -> LSt -> Option R) : lp m8 gX yP (n + 1) (Ch (v :: o) x ts i) k = bif decide (i < Int.ofNat ts.length) then (idx ts i).bind fun v1 => bif decide (List.length v1.2.1 <= 9223372036854775807 /\ List.length v1.2.2.1 <= 9223372036854775807) then bif jw v1.1 v1.2.1 v1.2.2.1 != 0 then k AEx.ret { fr := aw 6 [(2, AV.op 0 [] 0), (4, AV.op 1 [] 0), (5, I 1), (6, AV.os 2 0), (8, AV.op 3 [] 0), (9, AV.d Y0.slice ts), (10, I (Int.ofNat ts.length)), (11, I i), (12, B true), (13, AV.ip Y0 v1), (14, AV.d Y0 v1), (15, AV.d Y0 v1), (16, I (jw v1.1 v1.2.1 v1.2.2.1)), (17, B true), (18, (AV.d Ty.str []).pr ((I 0).pr (AV.nils.pr (AV.d Ty.unit PUnit.unit))))], hp := [(1, aj.box ((AV.d Ty.str []).pr ((I 0).pr (AV.nils.pr (AV.d Ty.unit PUnit.unit))))), (3, aj.box (AV.d Y0 v1)), (3, aj.box ((I 0).pr (AV.nils.pr (AV.nils.pr (AV.d Ty.unit PUnit.unit))))), (0, aj.box (AV.d Y2 x)), (1, aj.box ((AV.d Ty.str []).pr ((I 0).pr (AV.nils.pr (AV.d Ty.unit PUnit.unit))))), (2, aj.arr 47 Y3 0 false (v :: o))], nx := 4 } else (app (v :: o) [([], v1.1, v1.2.1, PUnit.unit)]).bind fun v4 => lp m8 gX yP n (Ch v4 x ts (i64.wrap (i + 1))) k else none else k (AEx.exit 0) { fr := aw 6 [(2, AV.op 0 [] 0), (4, AV.op 1 [] 0), (6, AV.os 2 0), (9, AV.d Y0.slice ts), (10, I (Int.ofNat ts.length)), (11, I i), (12, B false)], hp := [(0, aj.box (AV.d Y2 x)), (1, aj.box ((AV.d Ty.str []).pr ((I 0).pr (AV.nils.pr (AV.d Ty.unit PUnit.unit))))), (2, aj.arr 47 Y3 0 false (v :: o))], nx := 3 } := by kernel_rfl
theorem abM (x : ek) (ts : List (Y0).den) (i : Int) : U8 (.exit 0) { fr := aw 6 [(2, AV.op 0 [] 0), (4, AV.op 1 [] 0), (6, AV.nils), (9, .d (.slice (Y0)) ts), (10, I (Int.ofNat ts.length)), (11, I i), (12, B false)], hp := U9 x, nx := 2 } = bif PU x [] then az [AV.d Y3 (Og x []), I (Jn x [])] else none := by kernel_rfl
theorem abN (o : b5) (x : ek) (ts : List (Y0).den) (i : Int) : U8 (.exit 0) { fr := aw 6 [(2, AV.op 0 [] 0), (4, AV.op 1 [] 0), (6, AV.os 2 0), (9, .d (.slice (Y0)) ts), (10, I (Int.ofNat ts.length)), (11, I i), (12, B false)], hp := U9 x ++ [(2, .arr 47 (Y3) 0 false o)], nx := 3 } = bif PU x o then az [AV.d Y3 (Og x o), I (Jn x o)] else none := by kernel_rfl
def b6 (t : (Y0).den) : (Y3).den := ([], t.1, t.2.1, ())
def tW (ts : List (Y0).den) : Bool := ts.all fun t => jw t.1 t.2.1 t.2.2.1 == 0
def p8 (ts : List (Y0).den) : Bool := ts.all fun t => decide (List.length t.2.1 <= 2147483648 /\ List.length t.2.2.1 <= 2147483648)
noncomputable def Ci (n : ek) (o : b5) : Option (aq × LHp) := bif PU n o then some (.ret [.d (Y3) (Og n o), I (Jn n o)], []) else none
def ajx (n : ek) (ts : List (Y0).den) (i : Int) (o : b5) : LSt := match o with
 | [] => wz n ts i
 | v :: o => Ch (v :: o) n ts i
def bgN (o : b5) (t : (Y0).den) : Nx (b5) (aq × LHp) := bif jw t.1 t.2.1 t.2.2.1 != 0 then .stop (CV 1) else .go (o ++ [b6 t])
theorem GW (n : ek) : ∀ (ts : List (Y0).den) (o : b5), cg bgN (Ci n) ts o = bif tW ts then Ci n (o ++ ts.map b6) else CV 1
 | [], o => by rw [cg, List.map_nil, List.append_nil]; rfl
 | t :: ts, o => by
  have e : bgN o t = bif jw t.1 t.2.1 t.2.2.1 != 0 then .stop (CV 1) else .go (o ++ [b6 t]) := rfl
  have eo : tW (t :: ts) = ((jw t.1 t.2.1 t.2.2.1 == 0) && tW ts) := rfl
  rw [cg, e, eo]
  cases h : jw t.1 t.2.1 t.2.2.1 != 0 with
  | true => rw [jH h]; rfl
  | false =>
   have h0 : (jw t.1 t.2.1 t.2.2.1 == 0) = true := by simpa using h
   rw [h0, ax, Bool.true_and]
   show cg bgN _ ts _ = _
   rw [GW n ts, List.append_assoc]
   rfl
theorem abO {n : ek} {ts : List (Y0).den} (hs : p8 ts = true) (hl : ts.length <= 2147483648) : lp m8 gX yP fu (wz n ts 0) U8 = bif tW ts then Ci n (ts.map b6) else CV 1 := by
 have hm : maxLen = 9223372036854775807 := by decide
 refine (cq (xs := ts) (T := fun m s => lp m8 gX yP m s U8) (st := fun (i : Int) (o : b5) => ajx n ts i o) (f := bgN) (fin := Ci n) (fun (i : Nat) (o : b5) => o.length = i) (by omega) ?_ ?_ (a := []) rfl).trans (GW n ts [])
 ·intro i o t m hI hi gx gi hw hd
  have ht := aU (List.all_eq_true.1 hs t (List.mem_of_getElem? gx))
  have e : bgN o t = bif jw t.1 t.2.1 t.2.2.1 != 0 then .stop (CV 1) else .go (o ++ [b6 t]) := rfl
  have hd2 : decide (List.length t.2.1 <= 9223372036854775807 /\ List.length t.2.2.1 <= 9223372036854775807) = true := aD (by have := ht.1; have := ht.2; omega)
  cases o with
  | nil =>
   have hs := Oh n ts (i : Int) m U8
   rw [hd, ai, gi, aB, hd2, ai, hw] at hs
   cases h : jw t.1 t.2.1 t.2.2.1 != 0 with
   | true =>
    rw [h, ai] at hs e
    exact .inr ⟨_, e, hs.trans (by kernel_rfl)⟩
   | false =>
    rw [h, ax] at hs e
    exact .inl ⟨_, e, by rw [List.length_append, hI]; rfl, hs⟩
  | cons v o =>
   have j1 : (v :: o).length + [b6 t].length <= lim := by rw [hI, List.length_singleton, show lim = 4294967296 from rfl]; omega
   have ev : (([], t.1, t.2.1, PUnit.unit) : (Y3).den) = b6 t := rfl
   have hs := Oi v o n ts (i : Int) m U8
   rw [hd, ai, gi, aB, hd2, ai, hw, ev, dI j1] at hs
   cases h : jw t.1 t.2.1 t.2.2.1 != 0 with
   | true =>
    rw [h, ai] at hs e
    exact .inr ⟨_, e, hs.trans (by kernel_rfl)⟩
   | false =>
    rw [h, ax, aB] at hs
    rw [h, ax] at e
    exact .inl ⟨_, e, by rw [List.length_append, hI]; rfl, hs⟩
 ·intro o m hI hd
  cases o with
  | nil =>
   show lp _ _ _ (m + 1) (wz n ts (ts.length : Int)) _ = _
   rw [Oh, hd, ax]
   exact abM n ts (ts.length : Int)
  | cons v o =>
   show lp _ _ _ (m + 1) (Ch (v :: o) n ts (ts.length : Int)) _ = _
   rw [Oi, hd, ax]
   exact abN (v :: o) n ts (ts.length : Int)
theorem agZ (n : ek) (ts : List (Y0).den) : hlp m8 gX yP (aq × LHp) (wz n ts 0) U8 = lp m8 gX yP fu (wz n ts 0) U8 := rfl
noncomputable def EC (n : ek) (ts : List (Y0).den) : Int := bif tW ts then Jn n (ts.map b6) else 1
noncomputable def me (n : ek) (ts : List (Y0).den) : (Y3).den := bif tW ts then Og n (ts.map b6) else ([], 0, [], ())
noncomputable def Va (n : ek) (ts : List (Y0).den) : Bool := p8 ts && (decide (ts.length <= 2147483648) && (!tW ts || PU n (ts.map b6)))
noncomputable def bgF : List AV -> LHp -> Tq
 | [.d Y2 n, .d (.slice Y0) ts], [] => .br (Va n ts) (.leaf (.ret [.d (Y3) (me n ts), I (EC n ts)]) []) .no
 | _, _ => .no
theorem abP {n : ek} {ts : List (Y0).den} (hg : Va n ts = true) : ∃ p, aC m8 f39 6 [(3, [2, 4, 6, 9, 10, 11])] [.d (Y2) n, .d (.slice (Y0)) ts] [] ah = some p /\ U5 (some p) = some (.ret [.d (Y3) (me n ts), I (EC n ts)], []) := by
 unfold Va at hg
 rw [ba, ba] at hg
 obtain ⟨g1, g2, g3⟩ := hg
 have h9 := (abL n ts).trans ((agZ n ts).trans (abO (n := n) g1 (aU g2)))
 unfold me EC
 cases hq : tW ts with
 | false =>
  rw [hq, ax] at h9
  exact ⟨_, h9, rfl⟩
 | true =>
  rw [hq, ai] at h9
  rw [hq] at g3
  have g3 : PU n (ts.map b6) = true := g3
  unfold Ci at h9
  rw [g3, ai] at h9
  exact ⟨_, h9, rfl⟩
theorem qA {E : Env} {fn : Func} {depth : Nat} {live : List (Nat × List Nat)} {R : Type} (args : List AV) (hs : LHp) (k : aq -> LHp -> Option R) : (au E fn depth live).run args hs k = aC E fn depth live args hs k := rfl
noncomputable def bgR : FnE := au m8 f39 6 [(3, [2, 4, 6, 9, 10, 11])]
theorem Oj : bg 39 bgR := bD Jo func39 call39
theorem abQ : bg 39 (ao bgF) := by
 have h1 : bg 39 (Ce [(Y3), aa] bgR) := yM Oj
 refine aO fun args hs ae aH h' => ?_
 unfold bgF at h'
 split at h'
 ·rename_i n ts
  obtain ⟨hg, h2⟩ := Tq.br_no h'
  obtain ⟨p, h3, h4⟩ := abP hg
  refine h1.ok _ _ _ _ (Eq.trans ?_ (h4.trans h2))
  simp only [Ce]
  rw [Oj.eq]
  have h5 : bgR.run [.d (Y2) n, .d (.slice (Y0)) ts] [] (fun a h => some (a, h)) = some p := by
   unfold bgR
   rw [qA]
   exact h3
  rw [h5]
  obtain ⟨ae0, J7⟩ := p
  rfl
 ·cases h'
noncomputable def bgE : FnE := b8 [(Y2), .slice (Y0)] (ao bgF)
theorem abR : bg 39 bgE := bf abQ
def aE : List Nat -> Nat
 | [] => 1
 | d :: r => d * aE r
def dR : List Nat -> Nat -> List Nat
 | [], _ => []
 | _ :: r, q => q / aE r :: dR r (q % aE r)
def dot : List Nat -> List Nat -> Nat
 | a :: r, s :: t => a * s + dot r t
 | _, _ => 0
def ints (l : List Nat) : af := l.map (fun n : Nat => (n : Int))
theorem gY (a : Nat) (l : List Nat) : ints (a :: l) = (a : Int) :: ints l := rfl
theorem dC (l : List Nat) : (ints l).length = l.length := by simp [ints]
theorem GX : ∀ (ds : List Nat) (q : Nat), (dR ds q).length = ds.length
 | [], _ => rfl
 | _ :: r, q => by simp only [dR, List.length_cons, GX r]
theorem yQ {xs zs : af} {y : Int} : (xs ++ y :: zs)[xs.length]? = some y := by
 rw [List.getElem?_append_right (Nat.le_refl _), Nat.sub_self]
 rfl
theorem mQ {xs zs : af} {y : Int} : idx (xs ++ y :: zs) (Int.ofNat xs.length) = some y := by
 unfold idx
 rw [if_pos (show (0 : Int) <= Int.ofNat xs.length from Int.natCast_nonneg _), show (Int.ofNat xs.length).toNat = xs.length from rfl, yQ]
theorem yR {xs zs : af} {y v : Int} : fv (xs ++ y :: zs) xs.length v = some (xs ++ v :: zs) := by
 unfold fv
 rw [show Nat.blt xs.length (xs ++ y :: zs).length = true from Nat.ble_eq_true_of_le (by rw [List.length_append, List.length_cons]; omega), ai, List.set_append_right _ _ (Nat.le_refl _), Nat.sub_self]
 rfl
theorem fa {ds : List Nat} (h : ∀ d ∈ ds, 1 <= d) : 1 <= aE ds := by
 induction ds with
 | nil => exact Nat.le_refl _
 | cons d r ih =>
  have h1 := h d (by simp)
  have h2 := ih fun x hx => h x (by simp [hx])
  exact Nat.mul_pos h1 h2
theorem Ol (n : Nat) : List.replicate n (0 : Int) = ints (List.replicate n 0) := by simp [ints]
theorem Cj : ∀ ds : List Nat, dR ds 0 = List.replicate ds.length 0
 | [] => rfl
 | _ :: r => by
  show 0 / aE r :: dR r (0 % aE r) = _
  rw [Nat.zero_div, Nat.zero_mod, Cj r]
  rfl
theorem tX : ∀ (ds : List Nat) (a : Int), (ints ds).foldl (· * ·) a = a * (aE ds : Nat)
 | [], a => by show a = a * ((1 : Nat) : Int); rw [Int.natCast_one, Int.mul_one]
 | d :: r, a => by
  show (ints r).foldl (· * ·) (a * (d : Int)) = a * ((d * aE r : Nat) : Int)
  rw [tX r, Int.mul_assoc, Int.natCast_mul]
theorem jI (ds : List Nat) : cH (ints ds) = (aE ds : Nat) := by
 unfold cH
 rw [tX, Int.one_mul]
theorem mf : ∀ {xs : af}, (∀ x ∈ xs, 0 <= x) -> ints (xs.map Int.toNat) = xs
 | [], _ => rfl
 | x :: r, h => by
  show ((x.toNat : Nat) : Int) :: ints (r.map Int.toNat) = x :: r
  rw [mf fun y hy => h y (by simp [hy]), Int.toNat_of_nonneg (h x (by simp))]
theorem Ck {ds : List Nat} (h : ∀ d ∈ ds, 1 <= d) : ∀ d ∈ ds, d <= aE ds := by
 induction ds with
 | nil => intro d hd; cases hd
 | cons a r ih =>
  intro d hd
  have h1 := h a (by simp)
  have h2 : ∀ x ∈ r, 1 <= x := fun x hx => h x (by simp [hx])
  have h3 := fa h2
  rcases List.mem_cons.1 hd with rfl | hd
  ·exact Nat.le_mul_of_pos_right _ h3
  ·exact Nat.le_trans (ih h2 d hd) (Nat.le_mul_of_pos_left _ h1)
def pa : List Nat -> List Nat
 | [] => []
 | _ :: r => aE r :: pa r
theorem Cl : ∀ (ds : List Nat), (pa ds).length = ds.length
 | [] => rfl
 | _ :: r => by simp only [pa, List.length_cons, Cl r]
theorem jf : ∀ (a b : List Nat), aE (a ++ b) = aE a * aE b
 | [], b => by show aE b = 1 * aE b; rw [Nat.one_mul]
 | x :: r, b => by show x * aE (r ++ b) = x * aE r * aE b; rw [jf r b, Nat.mul_assoc]
theorem ED {a b : List Nat} (h : ∀ x ∈ a, 1 <= x) : aE b <= aE (a ++ b) := by
 rw [jf]
 exact Nat.le_mul_of_pos_left _ (fa h)
def EE (d : af) : af := ints (pa (d.map Int.toNat))
noncomputable def WY : Code := bd f86
noncomputable def Vb : Code := cL (cL (cR (cL (cR (cR (cR (cR WY)))))))
noncomputable def mg : Cfg := ⟨43, 6, 0, [(7, [0, 6, 7, 22, 23])], true⟩
def Vc (d out : af) (n i : Int) : LSt := { fr := aw 6 [(0, AV.d (aa).slice d), (6, AV.os 0 0), (7, I n), (22, I (Int.ofNat d.length)), (23, I i)], hp := [(0, aj.arr 3 aa 0 false out)], nx := 1 }
noncomputable def KSs : AEx -> LSt -> Option (aq × LHp) := (aQ 0 (aX ry mg [7] (hlp ry mg) (cR (cR (cR (cR (cR WY))))) (aZ prog 0 f86.results.toList ah)))
theorem abS (d : af) : aC ry f86 6 [(7, [0, 6, 7, 22, 23])] [.d (.slice aa) d] [] ah = bif decide (d.length <= 9223372036854775807) then bif ay d != 0 then az [AV.nils, I (ay d)] else (if 0 <= Int.ofNat d.length /\ Int.ofNat d.length <= 4294967296 then some (List.replicate (Int.ofNat d.length).toNat 0) else none).bind fun v2 => (hlp ry mg) Vb _ (Vc d v2 1 0) KSs else none := (bq [7] mg rfl).trans (by obtain ⟨hl, h⟩ := bc ry mg; rw [h]; kernel_rfl)
theorem Om (d out : af) (n0 i : Int) (n : Nat) {R : Type} (k : AEx -> LSt -> Option R) : lp ry mg Vb (n + 1) (Vc d out n0 i) k = bif decide (i < Int.ofNat d.length) then (idx out (i64.wrap (i64.wrap (Int.ofNat d.length - 1) - i))).bind fun v1 => (fv out (i64.wrap (i64.wrap (Int.ofNat d.length - 1) - i)).toNat n0).bind fun v2 => (idx d (i64.wrap (i64.wrap (Int.ofNat d.length - 1) - i))).bind fun v3 => lp ry mg Vb n (Vc d v2 (i64.wrap (n0 * v3)) (i64.wrap (i + 1))) k else k (AEx.exit 0) { fr := aw 6 [(0, AV.d (aa).slice d), (6, AV.os 0 0), (7, I n0), (22, I (Int.ofNat d.length)), (23, I i), (24, B false)], hp := [(0, aj.arr 3 (aa) 0 false out)], nx := 1 } := by kernel_rfl
theorem abT (d out : af) (n0 i : Int) : KSs (.exit 0) { fr := aw 6 [(0, AV.d (aa).slice d), (6, AV.os 0 0), (7, I n0), (22, I (Int.ofNat d.length)), (23, I i), (24, B false)], hp := [(0, aj.arr 3 aa 0 false out)], nx := 1 } = some (aq.ret [AV.os 0 0, I 0], [(0, aj.arr 3 (aa) 0 false out)]) := by kernel_rfl
theorem abU {D : List Nat} (hD : ∀ x ∈ D, 1 <= x) (hP : aE D <= 65536) (hl : D.length <= 6) : ∀ (r : Nat) (Dp Dr : List Nat) (n : Nat), Dp.length = r -> D = Dp ++ Dr -> r < n ->
  lp ry mg Vb n (Vc (ints D) (List.replicate r (0 : Int) ++ ints (pa Dr)) (aE Dr : Nat) (Dr.length : Nat)) KSs = some (.ret [.os 0 0, I 0], [(0, .arr 3 aa 0 false (ints (pa D)))]) := by
 intro r
 induction r with
 | zero =>
  intro Dp Dr n h1 h2 hn
  obtain ⟨n, rfl⟩ : ∃ m', n = m' + 1 := ⟨n - 1, by omega⟩
  cases Dp with
  | cons _ _ => cases h1
  | nil =>
   simp only [List.nil_append] at h2
   subst h2
   rw [Om, bU (show ¬ (((D.length : Nat) : Int) < Int.ofNat (ints D).length) by rw [dC]; exact Int.lt_irrefl _), ax]
   exact abT _ _ _ _
 | succ r ih =>
  intro Dp Dr n h1 h2 hn
  obtain ⟨n, rfl⟩ : ∃ m', n = m' + 1 := ⟨n - 1, by omega⟩
  rcases List.eq_nil_or_concat Dp with h0 | ⟨Dq, d, h0⟩
  ·subst h0; cases h1
  ·subst h0
   have hq : Dq.length = r := by simp at h1; exact h1
   have hDl : D.length = r + 1 + Dr.length := by rw [h2]; simp [hq]; omega
   have e2 : D = Dq ++ d :: Dr := by rw [h2]; simp
   have w0 : i64.wrap (Int.ofNat (ints D).length - 1) = (r : Int) + Dr.length := by
    rw [dC, aI (by simp only [aK]; omega) (by simp only [aK]; omega)]
    simp only [aK]
    omega
   have w1 : i64.wrap (i64.wrap (Int.ofNat (ints D).length - 1) - (Dr.length : Int)) = Int.ofNat r := by
    rw [w0, aI (by omega) (by omega)]
    simp only [aK]
    omega
   have bJ : ((Dr.length : Nat) : Int) < Int.ofNat (ints D).length := by rw [dC]; simp only [aK]; omega
   have er : List.replicate (r + 1) (0 : Int) ++ ints (pa Dr) = List.replicate r (0 : Int) ++ (0 : Int) :: ints (pa Dr) := by
    rw [List.replicate_succ', List.append_assoc]
    rfl
   have g1 : idx (List.replicate r (0 : Int) ++ (0 : Int) :: ints (pa Dr)) (Int.ofNat r) = some 0 := by
    have := mQ (xs := List.replicate r (0 : Int)) (zs := ints (pa Dr)) (y := 0)
    rw [List.length_replicate] at this
    exact this
   have g2 : fv (List.replicate r (0 : Int) ++ (0 : Int) :: ints (pa Dr)) (Int.ofNat r).toNat (aE Dr : Nat) = some (List.replicate r (0 : Int) ++ ints (pa (d :: Dr))) := by
    have := yR (xs := List.replicate r (0 : Int)) (zs := ints (pa Dr)) (y := 0) (v := ((aE Dr : Nat) : Int))
    rw [List.length_replicate] at this
    exact this
   have g3 : idx (ints D) (Int.ofNat r) = some (d : Int) := by
    have := mQ (xs := ints Dq) (zs := ints Dr) (y := (d : Int))
    rw [dC, hq] at this
    rw [e2, show ints (Dq ++ d :: Dr) = ints Dq ++ (d : Int) :: ints Dr by unfold ints; rw [List.map_append, List.map_cons]]
    exact this
   have hpd : aE (d :: Dr) <= 65536 := by
    refine Nat.le_trans ?_ hP
    rw [e2]
    exact ED fun x hx => hD x (by rw [e2]; simp [hx])
   have hpd' : d * aE Dr <= 65536 := hpd
   have w2 : i64.wrap (((aE Dr : Nat) : Int) * (d : Int)) = ((aE (d :: Dr) : Nat) : Int) := by
    rw [← Int.natCast_mul, show aE (d :: Dr) = d * aE Dr from rfl, Nat.mul_comm, aI (by omega) (by omega)]
   have w3 : i64.wrap ((Dr.length : Int) + 1) = (((d :: Dr).length : Nat) : Int) := by
    rw [aI (by omega) (by omega), List.length_cons]
    omega
   rw [Om, aD bJ, ai, w1, er, g1, aB, g2, aB, g3, aB, w2, w3]
   exact ih Dq (d :: Dr) n hq e2 (by omega)
theorem kL {d : af} (h : ay d = 0) : ∃ D : List Nat, d = ints D /\ D = d.map Int.toNat /\ (∀ x ∈ D, 1 <= x) /\ aE D <= 65536 /\ D.length <= 6 := by
 obtain ⟨p1, p2, p3, _⟩ := eQ h
 have ed : ints (d.map Int.toNat) = d := mf fun x hx => by have := p1 x hx; omega
 refine ⟨d.map Int.toNat, ed.symm, rfl, fun x hx => ?_, ?_, by rw [List.length_map]; exact p2⟩
 ·obtain ⟨y, hy, rfl⟩ := List.mem_map.1 hx
  have := p1 y hy
  omega
 ·have e := jI (d.map Int.toNat)
  rw [ed] at e
  omega
theorem Vd {d : af} (hl : d.length <= maxLen) : aC ry f86 6 [(7, [0, 6, 7, 22, 23])] [.d (.slice aa) d] [] ah =
  bif ay d != 0 then some (.ret [.nils, I (ay d)], []) else some (.ret [.os 0 0, I 0], [(0, .arr 3 aa 0 false (EE d))]) := by
 refine (abS d).trans ?_
 rw [aD (show d.length <= 9223372036854775807 from hl), ai]
 cases hc : ay d != 0 with
 | true => rfl
 | false =>
  have h0 : ay d = 0 := by simpa using hc
  obtain ⟨D, rfl, eD, h1, h2, h3⟩ := kL h0
  have hf : fu = 18446744073709551616 := rfl
  rw [ax, ax, if_pos (show 0 <= Int.ofNat (ints D).length /\ Int.ofNat (ints D).length <= 4294967296 by rw [dC]; simp only [aK]; omega), aB]
  have key := abU h1 h2 h3 D.length D [] fu rfl (by simp) (by omega)
  rw [show (pa ([] : List Nat)) = [] from rfl, show ints [] = [] from rfl, List.append_nil] at key
  unfold EE
  rw [← eD, show (Int.ofNat (ints D).length).toNat = D.length by rw [dC]; rfl]
  exact key
def abV : List AV -> LHp -> Tq
 | [.d zS d], [] => .br (decide (d.length <= maxLen)) (.br (ay d != 0) (.leaf (.ret [.nils, I (ay d)]) []) (.leaf (.ret [.os 0 0, I 0]) [(0, .arr 3 aa 0 false (EE d))])) .no
 | _, _ => .no
theorem Ve : bg 86 (ao abV) := by
 have h1 : bg 86 (au ry f86 6 [(7, [0, 6, 7, 22, 23])]) := LW
 refine aO fun args hs ae aH h' => ?_
 unfold abV at h'
 split at h'
 ·obtain ⟨hl, h2⟩ := Tq.br_no h'
  exact h1.okC ((Vd (aU hl)).trans h2)
 ·cases h'
theorem jJ (D : List Nat) : (ints D).map Int.toNat = D := by
 induction D with
 | nil => rfl
 | cons a l ih => rw [gY, List.map_cons, ih]; rfl
end
end Go.Proofs.XRT
