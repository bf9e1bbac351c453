/- infer.numbers: run. -/
import Derived.Test.YtbijfcooljoogaaGreatDoorS38
import Derived.Test.YtbijfcooljoogaaGreatDoorS39
namespace Go.Proofs.XGT
open Go.Vm Go
set_option maxRecDepth 100000
set_option maxHeartbeats 4000000
def stNp (c lo hi v : Int) (q : AV) (i l : Int) (b : Bool) (r s : Nat) (hp : LHp) (nx : Nat) : LSt := { fr := mkFr 6 [(3, I c), (4, I lo), (5, I hi), (14, q), (16, I v), (21, AV.os r 0), (22, I l), (23, I i), (24, B true), (25, AV.oe s 0 i.toNat), (26, I v), (27, I lo), (28, I v), (29, B (decide (lo ≤ v))), (30, B true), (31, I v), (32, I hi), (33, B (decide (v ≤ hi))), (34, B b)], hp := hp, nx := nx }
def stNq (c lo hi v : Int) (q : AV) (i l : Int) (r s : Nat) (hp : LHp) (nx : Nat) : LSt := { fr := mkFr 6 [(3, I c), (4, I lo), (5, I hi), (14, q), (16, I v), (21, AV.os r 0), (22, I l), (23, I i), (24, B true), (25, AV.oe s 0 i.toNat), (26, I v), (27, I lo), (28, I v), (29, B (decide (lo ≤ v))), (30, B false), (31, AV.tup []), (32, AV.tup []), (33, AV.tup []), (34, B false)], hp := hp, nx := nx }
end Go.Proofs.XGT
namespace Go.Proofs.XGT
open Go.Vm Go
set_option maxRecDepth 100000
set_option maxHeartbeats 4000000
noncomputable def gV (F : FnE) : Env := g184.add 132 F
end Go.Proofs.XGT
namespace Go.Proofs.XGT
open Go.Vm Go
set_option maxRecDepth 100000
set_option maxHeartbeats 1000000
theorem countE_mk {xs : List Int} (h1 : ∀ x ∈ xs, 1 ≤ x) (h2 : xs.length ≤ 6) (h3 : prodI xs ≤ 65536) : countE xs = 0 ∧ countN xs = prodI xs := by
  have e1 : decide (idxP (fun d => decide (d < 1)) xs ≥ 0) = false := by
    rw [idxP_ge, List.any_eq_false]
    intro x hx
    have := h1 x hx
    simp only [decide_eq_true_eq]
    omega
  have e2 : decide (Int.ofNat xs.length > 6) = false := decide_eq_false (by simp only [Int.ofNat_eq_natCast]; omega)
  have e3 : bigI xs = false := by
    unfold bigI
    exact decide_eq_false (by omega)
  unfold countE countN
  rw [e1, e2, e3]
  exact ⟨rfl, rfl⟩
theorem tenE_mk {t : Int} {xd dt : List Int} (h1 : numOk t 0 = true) (h2 : countE xd = 0) (h3 : (dt.length : Int) = countN xd) (h4 : ∀ x ∈ dt, numOk t x = true) : tenE t xd dt = 0 := by
  unfold tenE
  rw [h1, h2, show (Int.ofNat dt.length != countN xd) = false by rw [bne_eq_false_iff_eq]; exact h3, List.any_eq_false.2 (fun x hx => by rw [h4 x hx]; simp)]
  rfl
/-- what is known where a product is made -/
structure Ok2 (t1 t2 : Int) (M K N : Nat) (x y : List Int) : Prop where
  m1 : 1 ≤ M
  k1 : 1 ≤ K
  n1 : 1 ≤ N
  hmk : M * K ≤ 65536
  hkn : K * N ≤ 65536
  hmn : M * N ≤ 65536
  lx : x.length = M * K
  ly : y.length = K * N
  e1 : t1 = 1
  e2 : t2 = 1
  nx : ∀ v ∈ x, numOk 1 v = true
  tx : tenE t1 [(M : Int), K] x = 0
  ty : tenE t2 [(K : Int), N] y = 0
end Go.Proofs.XGT
namespace Go.Proofs.XGT
open Go.Vm Go
set_option maxRecDepth 100000
set_option maxHeartbeats 1000000
theorem tab_succ (n : Nat) (f : Nat → Int) : tab (n + 1) f = tab n f ++ [f n] := by
  unfold tab
  rw [List.range_succ, List.map_append]
  rfl
theorem getV {l : List Int} {p : Nat} (h : p < l.length) : idx l (p : Int) = some (l.getD p 0) ∧ l[p]? = some (l.getD p 0) := by
  have e : l[p]? = some (l.getD p 0) := by rw [List.getD_eq_getElem?_getD, List.getElem?_eq_getElem h]; rfl
  exact ⟨by unfold idx; rw [if_pos (by omega), Int.toNat_natCast, e], e⟩
theorem app_one {xs : List Int} {y : Int} (h : xs.length ≤ 65536) : app xs [y] = some (xs ++ [y]) := by
  unfold app
  rw [if_pos (by unfold lim; simp only [List.length_cons, List.length_nil]; omega)]
def f2V (l : List Int) (o v s u : Nat) (q : Nat) : Int := l.getD (o + q / v * s + q % v * u) 0
end Go.Proofs.XGT
namespace Go.Proofs.XGT
open Go.Vm Go
set_option maxRecDepth 100000
set_option maxHeartbeats 1000000
/-- all numbers of a list lie between two -/
def allIn (lo hi : Int) (l : List Int) : Bool := l.all fun v => decide (lo ≤ v) && decide (v ≤ hi)
end Go.Proofs.XGT
namespace Go.Proofs.XGT
open Go.Vm Go
set_option maxRecDepth 100000
set_option maxHeartbeats 4000000
def numC (c lo hi : Int) (l : List Int) : Bool := allIn lo hi l && (Int.ofNat l.length == c)
def hpTb (z : Bool) (t : Int) (d x : List Int) (ats : List (Y1).den) : LHp := [(0, .arr 25 (Y0) 0 false [(t, d, x, ())]), (1, .arr 37 (Y1) 0 z ats), (2, .arr 9 .str 0 false [[120]])]
end Go.Proofs.XGT
namespace Go.Proofs.XGT
open Go.Vm Go
set_option maxRecDepth 100000
set_option maxHeartbeats 4000000
theorem noE_ok (f : Nat) : FnE.OK e0.P e0.gam f (treeE fun _ _ => .no) := ⟨fun _ _ _ => Tq.eq _ _, fun _ _ _ _ h => by cases h⟩
end Go.Proofs.XGT
namespace Go.Proofs.XGT
open Go.Vm Go
set_option maxRecDepth 100000
set_option maxHeartbeats 4000000
noncomputable def C_nup : Code := codeOf Tryz.f160
noncomputable def cf_nup : Cfg := ⟨47, 6, 2, [(4, [3, 4, 5, 14, 21, 22, 23])], true⟩
def hpNp (pm : List Int) : LHp := [(0, .arr 37 (Y1) 0 true [lattr strPads pm]), (1, .arr 9 .str 0 false [[120]])]
theorem nup_eqH (hl : Hl) (c lo hi p : Int) (pm : List Int) : runH g106 Tryz.f160 6 [(4, [3, 4, 5, 14, 21, 22, 23])] [4] hl [nodeA strPA [] [121] (.os 1 0) (.os 0 0), .d .str strPads, .nils, I c, I lo, I hi] (hpNp (p :: pm)) ah = (app [] (p :: pm)).bind fun v0 => hl (cL (cL (cR (cL (cR (cR (cR C_nup))))))) _ { fr := mkFr 6 [(3, I c), (4, I lo), (5, I hi), (14, AV.nils), (21, AV.os 2 0), (22, I (Int.ofNat v0.length)), (23, I 0)], hp := [(0, AObj.arr 37 (Ty.str.pair ((i64T).pair ((i64T).pair ((i64T).pair (Ty.str.pair (Y0.pair ((i64T).slice.pair Ty.unit))))))) 0 true [([112, 97, 100, 115], 7, 0, 0, [], (0, [], [], ()), p :: pm, ())]), (1, AObj.arr 9 Ty.str 0 false [[120]]), (2, AObj.arr 2 (i64T) 0 false v0)], nx := 5 } (blkK 0 (seqH g106 cf_nup [4] hl (cR (cR (cR (cR C_nup)))) (endC Tryz.prog 2 Tryz.f160.results.toList ah))) := by kernel_rfl
theorem nup_eq (c lo hi p : Int) (pm : List Int) : runC g106 Tryz.f160 6 [(4, [3, 4, 5, 14, 21, 22, 23])] [nodeA strPA [] [121] (.os 1 0) (.os 0 0), .d .str strPads, .nils, I c, I lo, I hi] (hpNp (p :: pm)) ah = (app [] (p :: pm)).bind fun v0 => (hlp g106 cf_nup) (cL (cL (cR (cL (cR (cR (cR C_nup))))))) _ { fr := mkFr 6 [(3, I c), (4, I lo), (5, I hi), (14, AV.nils), (21, AV.os 2 0), (22, I (Int.ofNat v0.length)), (23, I 0)], hp := [(0, AObj.arr 37 (Ty.str.pair ((i64T).pair ((i64T).pair ((i64T).pair (Ty.str.pair (Y0.pair ((i64T).slice.pair Ty.unit))))))) 0 true [([112, 97, 100, 115], 7, 0, 0, [], (0, [], [], ()), p :: pm, ())]), (1, AObj.arr 9 Ty.str 0 false [[120]]), (2, AObj.arr 2 (i64T) 0 false v0)], nx := 5 } (blkK 0 (seqH g106 cf_nup [4] (hlp g106 cf_nup) (cR (cR (cR (cR C_nup)))) (endC Tryz.prog 2 Tryz.f160.results.toList ah))) := runH_runC.trans (nup_eqH (hlp g106 cf_nup) c lo hi p pm)
def stNp0 (c lo hi : Int) (pm L : List Int) (i : Int) : LSt := { fr := mkFr 6 [(3, I c), (4, I lo), (5, I hi), (14, AV.nils), (21, AV.os 2 0), (22, I (Int.ofNat L.length)), (23, I i)], hp := hpNp pm ++ [(2, AObj.arr 2 i64T 0 false L)], nx := 5 }
theorem nup_st0H (hl : Hl) (c lo hi : Int) (pm L : List Int) (i : Int) (n : Nat) {R : Type} (k : AEx → LSt → Option R) : lpH g106 cf_nup [4] hl (cL (cL (cR (cL (cR (cR (cR C_nup))))))) (n + 1) (stNp0 c lo hi pm L i) k = bif decide (i < Int.ofNat L.length) then (idx L i).bind fun v1 => (L[i.toNat]?).bind fun v2 => bif decide (lo ≤ v2) then  bif !decide (v2 ≤ hi) then k (AEx.panic 123 4) { fr := mkFr 6 [(3, I c), (4, I lo), (5, I hi), (14, AV.nils), (16, I v2), (21, AV.os 2 0), (22, I (Int.ofNat L.length)), (23, I i), (24, B true), (25, AV.oe 2 0 i.toNat), (26, I v2), (27, I lo), (28, I v2), (29, B (decide (lo ≤ v2))), (30, B true), (31, I v2), (32, I hi), (33, B (decide (v2 ≤ hi))), (34, B (decide (v2 ≤ hi)))], hp := [(0, AObj.arr 37 (Ty.str.pair ((i64T).pair ((i64T).pair ((i64T).pair (Ty.str.pair (Y0.pair ((i64T).slice.pair Ty.unit))))))) 0 true [([112, 97, 100, 115], 7, 0, 0, [], (0, [], [], ()), pm, ())]), (1, AObj.arr 9 Ty.str 0 false [[120]]), (2, AObj.arr 2 (i64T) 0 false L)], nx := 5 } else lpH g106 cf_nup [4] hl (cL (cL (cR (cL (cR (cR (cR C_nup))))))) n { fr := mkFr 6 [(3, I c), (4, I lo), (5, I hi), (14, AV.os 2 0), (21, AV.os 3 0), (22, I (Int.ofNat L.length)), (23, I (IntKind.i64.wrap (i + 1)))], hp := [(0, AObj.arr 37 (Ty.str.pair ((i64T).pair ((i64T).pair ((i64T).pair (Ty.str.pair (Y0.pair ((i64T).slice.pair Ty.unit))))))) 0 true [([112, 97, 100, 115], 7, 0, 0, [], (0, [], [], ()), pm, ())]), (1, AObj.arr 9 Ty.str 0 false [[120]]), (2, AObj.arr 3 (i64T) 0 false [v2]), (3, AObj.arr 2 (i64T) 0 false L)], nx := 6 } k else k (AEx.panic 123 4) { fr := mkFr 6 [(3, I c), (4, I lo), (5, I hi), (14, AV.nils), (16, I v2), (21, AV.os 2 0), (22, I (Int.ofNat L.length)), (23, I i), (24, B true), (25, AV.oe 2 0 i.toNat), (26, I v2), (27, I lo), (28, I v2), (29, B (decide (lo ≤ v2))), (30, B false), (31, AV.tup []), (32, AV.tup []), (33, AV.tup []), (34, B false)], hp := [(0, AObj.arr 37 (Ty.str.pair ((i64T).pair ((i64T).pair ((i64T).pair (Ty.str.pair (Y0.pair ((i64T).slice.pair Ty.unit))))))) 0 true [([112, 97, 100, 115], 7, 0, 0, [], (0, [], [], ()), pm, ())]), (1, AObj.arr 9 Ty.str 0 false [[120]]), (2, AObj.arr 2 (i64T) 0 false L)], nx := 5 } else k (AEx.exit 0) { fr := mkFr 6 [(3, I c), (4, I lo), (5, I hi), (14, AV.nils), (21, AV.os 2 0), (22, I (Int.ofNat L.length)), (23, I i), (24, B false)], hp := [(0, AObj.arr 37 (Ty.str.pair ((i64T).pair ((i64T).pair ((i64T).pair (Ty.str.pair (Y0.pair ((i64T).slice.pair Ty.unit))))))) 0 true [([112, 97, 100, 115], 7, 0, 0, [], (0, [], [], ()), pm, ())]), (1, AObj.arr 9 Ty.str 0 false [[120]]), (2, AObj.arr 2 (i64T) 0 false L)], nx := 5 } := by kernel_rfl
theorem nup_st0 (c lo hi : Int) (pm L : List Int) (i : Int) (n : Nat) {R : Type} (k : AEx → LSt → Option R) : lp g106 cf_nup (cL (cL (cR (cL (cR (cR (cR C_nup))))))) (n + 1) (stNp0 c lo hi pm L i) k = bif decide (i < Int.ofNat L.length) then (idx L i).bind fun v1 => (L[i.toNat]?).bind fun v2 => bif decide (lo ≤ v2) then  bif !decide (v2 ≤ hi) then k (AEx.panic 123 4) { fr := mkFr 6 [(3, I c), (4, I lo), (5, I hi), (14, AV.nils), (16, I v2), (21, AV.os 2 0), (22, I (Int.ofNat L.length)), (23, I i), (24, B true), (25, AV.oe 2 0 i.toNat), (26, I v2), (27, I lo), (28, I v2), (29, B (decide (lo ≤ v2))), (30, B true), (31, I v2), (32, I hi), (33, B (decide (v2 ≤ hi))), (34, B (decide (v2 ≤ hi)))], hp := [(0, AObj.arr 37 (Ty.str.pair ((i64T).pair ((i64T).pair ((i64T).pair (Ty.str.pair (Y0.pair ((i64T).slice.pair Ty.unit))))))) 0 true [([112, 97, 100, 115], 7, 0, 0, [], (0, [], [], ()), pm, ())]), (1, AObj.arr 9 Ty.str 0 false [[120]]), (2, AObj.arr 2 (i64T) 0 false L)], nx := 5 } else lp g106 cf_nup (cL (cL (cR (cL (cR (cR (cR C_nup))))))) n { fr := mkFr 6 [(3, I c), (4, I lo), (5, I hi), (14, AV.os 2 0), (21, AV.os 3 0), (22, I (Int.ofNat L.length)), (23, I (IntKind.i64.wrap (i + 1)))], hp := [(0, AObj.arr 37 (Ty.str.pair ((i64T).pair ((i64T).pair ((i64T).pair (Ty.str.pair (Y0.pair ((i64T).slice.pair Ty.unit))))))) 0 true [([112, 97, 100, 115], 7, 0, 0, [], (0, [], [], ()), pm, ())]), (1, AObj.arr 9 Ty.str 0 false [[120]]), (2, AObj.arr 3 (i64T) 0 false [v2]), (3, AObj.arr 2 (i64T) 0 false L)], nx := 6 } k else k (AEx.panic 123 4) { fr := mkFr 6 [(3, I c), (4, I lo), (5, I hi), (14, AV.nils), (16, I v2), (21, AV.os 2 0), (22, I (Int.ofNat L.length)), (23, I i), (24, B true), (25, AV.oe 2 0 i.toNat), (26, I v2), (27, I lo), (28, I v2), (29, B (decide (lo ≤ v2))), (30, B false), (31, AV.tup []), (32, AV.tup []), (33, AV.tup []), (34, B false)], hp := [(0, AObj.arr 37 (Ty.str.pair ((i64T).pair ((i64T).pair ((i64T).pair (Ty.str.pair (Y0.pair ((i64T).slice.pair Ty.unit))))))) 0 true [([112, 97, 100, 115], 7, 0, 0, [], (0, [], [], ()), pm, ())]), (1, AObj.arr 9 Ty.str 0 false [[120]]), (2, AObj.arr 2 (i64T) 0 false L)], nx := 5 } else k (AEx.exit 0) { fr := mkFr 6 [(3, I c), (4, I lo), (5, I hi), (14, AV.nils), (21, AV.os 2 0), (22, I (Int.ofNat L.length)), (23, I i), (24, B false)], hp := [(0, AObj.arr 37 (Ty.str.pair ((i64T).pair ((i64T).pair ((i64T).pair (Ty.str.pair (Y0.pair ((i64T).slice.pair Ty.unit))))))) 0 true [([112, 97, 100, 115], 7, 0, 0, [], (0, [], [], ()), pm, ())]), (1, AObj.arr 9 Ty.str 0 false [[120]]), (2, AObj.arr 2 (i64T) 0 false L)], nx := 5 } := by
  have h := nup_st0H (hlp g106 cf_nup) c lo hi pm L i n k
  simp only [lpH_lp] at h
  exact h
def hpNpv (pm out L : List Int) : LHp := hpNp pm ++ [(2, AObj.arr 3 i64T 0 false out), (3, AObj.arr 2 i64T 0 false L)]
def stNp1 (c lo hi : Int) (pm out L : List Int) (i : Int) : LSt := { fr := mkFr 6 [(3, I c), (4, I lo), (5, I hi), (14, AV.os 2 0), (21, AV.os 3 0), (22, I (Int.ofNat L.length)), (23, I i)], hp := hpNpv pm out L, nx := 6 }
theorem nup_st1H (hl : Hl) (c lo hi o : Int) (pm out L : List Int) (i : Int) (n : Nat) {R : Type} (k : AEx → LSt → Option R) : lpH g106 cf_nup [4] hl (cL (cL (cR (cL (cR (cR (cR C_nup))))))) (n + 1) (stNp1 c lo hi pm (o :: out) L i) k = bif decide (i < Int.ofNat L.length) then (idx L i).bind fun v1 => (L[i.toNat]?).bind fun v2 => bif decide (lo ≤ v2) then  bif !decide (v2 ≤ hi) then k (AEx.panic 123 4) { fr := mkFr 6 [(3, I c), (4, I lo), (5, I hi), (14, AV.os 2 0), (16, I v2), (21, AV.os 3 0), (22, I (Int.ofNat L.length)), (23, I i), (24, B true), (25, AV.oe 3 0 i.toNat), (26, I v2), (27, I lo), (28, I v2), (29, B (decide (lo ≤ v2))), (30, B true), (31, I v2), (32, I hi), (33, B (decide (v2 ≤ hi))), (34, B (decide (v2 ≤ hi)))], hp := [(0, AObj.arr 37 (Ty.str.pair ((i64T).pair ((i64T).pair ((i64T).pair (Ty.str.pair (Y0.pair ((i64T).slice.pair Ty.unit))))))) 0 true [([112, 97, 100, 115], 7, 0, 0, [], (0, [], [], ()), pm, ())]), (1, AObj.arr 9 Ty.str 0 false [[120]]), (2, AObj.arr 3 (i64T) 0 false (o :: out)), (3, AObj.arr 2 (i64T) 0 false L)], nx := 6 } else (app (o :: out) [v2]).bind fun v5 => lpH g106 cf_nup [4] hl (cL (cL (cR (cL (cR (cR (cR C_nup))))))) n { fr := mkFr 6 [(3, I c), (4, I lo), (5, I hi), (14, AV.os 2 0), (21, AV.os 3 0), (22, I (Int.ofNat L.length)), (23, I (IntKind.i64.wrap (i + 1)))], hp := [(0, AObj.arr 37 (Ty.str.pair ((i64T).pair ((i64T).pair ((i64T).pair (Ty.str.pair (Y0.pair ((i64T).slice.pair Ty.unit))))))) 0 true [([112, 97, 100, 115], 7, 0, 0, [], (0, [], [], ()), pm, ())]), (1, AObj.arr 9 Ty.str 0 false [[120]]), (2, AObj.arr 3 (i64T) 0 false v5), (3, AObj.arr 2 (i64T) 0 false L)], nx := 6 } k else k (AEx.panic 123 4) { fr := mkFr 6 [(3, I c), (4, I lo), (5, I hi), (14, AV.os 2 0), (16, I v2), (21, AV.os 3 0), (22, I (Int.ofNat L.length)), (23, I i), (24, B true), (25, AV.oe 3 0 i.toNat), (26, I v2), (27, I lo), (28, I v2), (29, B (decide (lo ≤ v2))), (30, B false), (31, AV.tup []), (32, AV.tup []), (33, AV.tup []), (34, B false)], hp := [(0, AObj.arr 37 (Ty.str.pair ((i64T).pair ((i64T).pair ((i64T).pair (Ty.str.pair (Y0.pair ((i64T).slice.pair Ty.unit))))))) 0 true [([112, 97, 100, 115], 7, 0, 0, [], (0, [], [], ()), pm, ())]), (1, AObj.arr 9 Ty.str 0 false [[120]]), (2, AObj.arr 3 (i64T) 0 false (o :: out)), (3, AObj.arr 2 (i64T) 0 false L)], nx := 6 } else k (AEx.exit 0) { fr := mkFr 6 [(3, I c), (4, I lo), (5, I hi), (14, AV.os 2 0), (21, AV.os 3 0), (22, I (Int.ofNat L.length)), (23, I i), (24, B false)], hp := [(0, AObj.arr 37 (Ty.str.pair ((i64T).pair ((i64T).pair ((i64T).pair (Ty.str.pair (Y0.pair ((i64T).slice.pair Ty.unit))))))) 0 true [([112, 97, 100, 115], 7, 0, 0, [], (0, [], [], ()), pm, ())]), (1, AObj.arr 9 Ty.str 0 false [[120]]), (2, AObj.arr 3 (i64T) 0 false (o :: out)), (3, AObj.arr 2 (i64T) 0 false L)], nx := 6 } := by kernel_rfl
theorem nup_st1 (c lo hi o : Int) (pm out L : List Int) (i : Int) (n : Nat) {R : Type} (k : AEx → LSt → Option R) : lp g106 cf_nup (cL (cL (cR (cL (cR (cR (cR C_nup))))))) (n + 1) (stNp1 c lo hi pm (o :: out) L i) k = bif decide (i < Int.ofNat L.length) then (idx L i).bind fun v1 => (L[i.toNat]?).bind fun v2 => bif decide (lo ≤ v2) then  bif !decide (v2 ≤ hi) then k (AEx.panic 123 4) { fr := mkFr 6 [(3, I c), (4, I lo), (5, I hi), (14, AV.os 2 0), (16, I v2), (21, AV.os 3 0), (22, I (Int.ofNat L.length)), (23, I i), (24, B true), (25, AV.oe 3 0 i.toNat), (26, I v2), (27, I lo), (28, I v2), (29, B (decide (lo ≤ v2))), (30, B true), (31, I v2), (32, I hi), (33, B (decide (v2 ≤ hi))), (34, B (decide (v2 ≤ hi)))], hp := [(0, AObj.arr 37 (Ty.str.pair ((i64T).pair ((i64T).pair ((i64T).pair (Ty.str.pair (Y0.pair ((i64T).slice.pair Ty.unit))))))) 0 true [([112, 97, 100, 115], 7, 0, 0, [], (0, [], [], ()), pm, ())]), (1, AObj.arr 9 Ty.str 0 false [[120]]), (2, AObj.arr 3 (i64T) 0 false (o :: out)), (3, AObj.arr 2 (i64T) 0 false L)], nx := 6 } else (app (o :: out) [v2]).bind fun v5 => lp g106 cf_nup (cL (cL (cR (cL (cR (cR (cR C_nup))))))) n { fr := mkFr 6 [(3, I c), (4, I lo), (5, I hi), (14, AV.os 2 0), (21, AV.os 3 0), (22, I (Int.ofNat L.length)), (23, I (IntKind.i64.wrap (i + 1)))], hp := [(0, AObj.arr 37 (Ty.str.pair ((i64T).pair ((i64T).pair ((i64T).pair (Ty.str.pair (Y0.pair ((i64T).slice.pair Ty.unit))))))) 0 true [([112, 97, 100, 115], 7, 0, 0, [], (0, [], [], ()), pm, ())]), (1, AObj.arr 9 Ty.str 0 false [[120]]), (2, AObj.arr 3 (i64T) 0 false v5), (3, AObj.arr 2 (i64T) 0 false L)], nx := 6 } k else k (AEx.panic 123 4) { fr := mkFr 6 [(3, I c), (4, I lo), (5, I hi), (14, AV.os 2 0), (16, I v2), (21, AV.os 3 0), (22, I (Int.ofNat L.length)), (23, I i), (24, B true), (25, AV.oe 3 0 i.toNat), (26, I v2), (27, I lo), (28, I v2), (29, B (decide (lo ≤ v2))), (30, B false), (31, AV.tup []), (32, AV.tup []), (33, AV.tup []), (34, B false)], hp := [(0, AObj.arr 37 (Ty.str.pair ((i64T).pair ((i64T).pair ((i64T).pair (Ty.str.pair (Y0.pair ((i64T).slice.pair Ty.unit))))))) 0 true [([112, 97, 100, 115], 7, 0, 0, [], (0, [], [], ()), pm, ())]), (1, AObj.arr 9 Ty.str 0 false [[120]]), (2, AObj.arr 3 (i64T) 0 false (o :: out)), (3, AObj.arr 2 (i64T) 0 false L)], nx := 6 } else k (AEx.exit 0) { fr := mkFr 6 [(3, I c), (4, I lo), (5, I hi), (14, AV.os 2 0), (21, AV.os 3 0), (22, I (Int.ofNat L.length)), (23, I i), (24, B false)], hp := [(0, AObj.arr 37 (Ty.str.pair ((i64T).pair ((i64T).pair ((i64T).pair (Ty.str.pair (Y0.pair ((i64T).slice.pair Ty.unit))))))) 0 true [([112, 97, 100, 115], 7, 0, 0, [], (0, [], [], ()), pm, ())]), (1, AObj.arr 9 Ty.str 0 false [[120]]), (2, AObj.arr 3 (i64T) 0 false (o :: out)), (3, AObj.arr 2 (i64T) 0 false L)], nx := 6 } := by
  have h := nup_st1H (hlp g106 cf_nup) c lo hi o pm out L i n k
  simp only [lpH_lp] at h
  exact h
noncomputable def KNp : AEx → LSt → Option (AEnd × LHp) := (blkK 0 (seqH g106 cf_nup [4] (hlp g106 cf_nup) (cR (cR (cR (cR C_nup)))) (endC Tryz.prog 2 Tryz.f160.results.toList ah)))
theorem np_p0 (c lo hi v i l : Int) (b : Bool) (pm L : List Int) : KNp (.panic 123 4) (stNp c lo hi v .nils i l b 2 2 (hpNp pm ++ [(2, AObj.arr 2 i64T 0 false L)]) 5) = some (AEnd.panic 123 4, [(0, AObj.arr 37 (Ty.str.pair ((i64T).pair ((i64T).pair ((i64T).pair (Ty.str.pair (Y0.pair ((i64T).slice.pair Ty.unit))))))) 0 true [([112, 97, 100, 115], 7, 0, 0, [], (0, [], [], ()), pm, ())]), (1, AObj.arr 9 Ty.str 0 false [[120]])]) := by kernel_rfl
theorem np_q0 (c lo hi v i l : Int) (pm L : List Int) : KNp (.panic 123 4) (stNq c lo hi v .nils i l 2 2 (hpNp pm ++ [(2, AObj.arr 2 i64T 0 false L)]) 5) = some (AEnd.panic 123 4, [(0, AObj.arr 37 (Ty.str.pair ((i64T).pair ((i64T).pair ((i64T).pair (Ty.str.pair (Y0.pair ((i64T).slice.pair Ty.unit))))))) 0 true [([112, 97, 100, 115], 7, 0, 0, [], (0, [], [], ()), pm, ())]), (1, AObj.arr 9 Ty.str 0 false [[120]])]) := by kernel_rfl
theorem np_p1 (c lo hi v i l : Int) (b : Bool) (pm out L : List Int) : KNp (.panic 123 4) (stNp c lo hi v (.os 2 0) i l b 3 3 (hpNpv pm out L) 6) = some (AEnd.panic 123 4, [(0, AObj.arr 37 (Ty.str.pair ((i64T).pair ((i64T).pair ((i64T).pair (Ty.str.pair (Y0.pair ((i64T).slice.pair Ty.unit))))))) 0 true [([112, 97, 100, 115], 7, 0, 0, [], (0, [], [], ()), pm, ())]), (1, AObj.arr 9 Ty.str 0 false [[120]])]) := by kernel_rfl
theorem np_q1 (c lo hi v i l : Int) (pm out L : List Int) : KNp (.panic 123 4) (stNq c lo hi v (.os 2 0) i l 3 3 (hpNpv pm out L) 6) = some (AEnd.panic 123 4, [(0, AObj.arr 37 (Ty.str.pair ((i64T).pair ((i64T).pair ((i64T).pair (Ty.str.pair (Y0.pair ((i64T).slice.pair Ty.unit))))))) 0 true [([112, 97, 100, 115], 7, 0, 0, [], (0, [], [], ()), pm, ())]), (1, AObj.arr 9 Ty.str 0 false [[120]])]) := by kernel_rfl
theorem np_e1 (c lo hi i l : Int) (pm out L : List Int) : KNp (.exit 0) { fr := mkFr 6 [(3, I c), (4, I lo), (5, I hi), (14, AV.os 2 0), (21, AV.os 3 0), (22, I l), (23, I i), (24, B false)], hp := hpNpv pm out L, nx := 6 } = bif !Int.ofNat out.length == c then some (AEnd.panic 123 4, [(0, AObj.arr 37 (Ty.str.pair ((i64T).pair ((i64T).pair ((i64T).pair (Ty.str.pair (Y0.pair ((i64T).slice.pair Ty.unit))))))) 0 true [([112, 97, 100, 115], 7, 0, 0, [], (0, [], [], ()), pm, ())]), (1, AObj.arr 9 Ty.str 0 false [[120]])]) else some (AEnd.ret [AV.os 2 0], [(0, AObj.arr 37 (Ty.str.pair ((i64T).pair ((i64T).pair ((i64T).pair (Ty.str.pair (Y0.pair ((i64T).slice.pair Ty.unit))))))) 0 true [([112, 97, 100, 115], 7, 0, 0, [], (0, [], [], ()), pm, ())]), (1, AObj.arr 9 Ty.str 0 false [[120]]), (2, AObj.arr 3 (i64T) 0 false out)]) := by kernel_rfl
end Go.Proofs.XGT
namespace Go.Proofs.XGT
open Go.Vm Go
set_option maxRecDepth 100000
set_option maxHeartbeats 1000000
def nupR (c lo hi : Int) (pm l : List Int) : Option (AEnd × LHp) := bif allIn lo hi l && (Int.ofNat pm.length == c) then some (.ret [.os 2 0], hpNp pm ++ [(2, .arr 3 i64T 0 false pm)]) else some (.panic 123 4, hpNp pm)
theorem nup_loop {c lo hi : Int} {pm : List Int} (hl : pm.length ≤ 2147483648) : ∀ (r i n : Nat), i + r = pm.length → 1 ≤ i → r < n →
    lp g106 cf_nup (cL (cL (cR (cL (cR (cR (cR C_nup))))))) n (stNp1 c lo hi pm (pm.take i) pm (i : Nat)) KNp = nupR c lo hi pm (pm.drop i) := by
  intro r
  induction r with
  | zero =>
    intro i n hir h1 hn
    obtain ⟨n, rfl⟩ : ∃ m', n = m' + 1 := ⟨n - 1, by omega⟩
    rw [List.take_of_length_le (by omega), List.drop_eq_nil_of_le (by omega)]
    cases hpm : pm with
    | nil => rw [hpm] at hir; simp only [List.length_nil] at hir; omega
    | cons o out =>
      rw [hpm] at hir
      rw [nup_st1, decide_eq_false (show ¬ ((i : Int) < Int.ofNat (o :: out).length) by simp only [Int.ofNat_eq_natCast]; omega), cond_false]
      refine (np_e1 _ _ _ _ _ _ _ _).trans ?_
      unfold nupR allIn
      simp only [List.all_nil, Bool.true_and]
      cases (Int.ofNat (o :: out).length == c) <;> rfl
  | succ r ih =>
    intro i n hir h1 hn
    obtain ⟨n, rfl⟩ : ∃ m', n = m' + 1 := ⟨n - 1, by omega⟩
    have hlt : i < pm.length := by omega
    have e0 : IntKind.i64.wrap ((i : Int) + 1) = ((i + 1 : Nat) : Int) := by rw [wrap64 (by omega) (by omega)]; omega
    have gx : pm[i]? = some pm[i] := List.getElem?_eq_getElem hlt
    have gi : idx pm (i : Int) = some pm[i] := by unfold idx; rw [if_pos (by omega), Int.toNat_natCast, gx]
    have ed : pm.drop i = pm[i] :: pm.drop (i + 1) := List.drop_eq_getElem_cons hlt
    have et : pm.take (i + 1) = pm.take i ++ [pm[i]] := (List.take_append_getElem hlt).symm
    have key := ih (i + 1) n (by omega) (by omega) (by omega)
    cases ht : pm.take i with
    | nil =>
      have := congrArg List.length ht
      rw [List.length_take, List.length_nil] at this
      omega
    | cons o out =>
      have hlen : (o :: out).length + [pm[i]].length ≤ lim := by rw [List.length_singleton, show lim = 4294967296 from rfl]; rw [← ht, List.length_take]; omega
      rw [nup_st1, decide_eq_true (show ((i : Int) < Int.ofNat pm.length) by simp only [Int.ofNat_eq_natCast]; omega), cond_true, gi, Option.bind_some, Int.toNat_natCast, gx, Option.bind_some]
      cases h2 : decide (lo ≤ pm[i]) with
      | false =>
        have er : nupR c lo hi pm (pm.drop i) = some (.panic 123 4, hpNp pm) := by
          unfold nupR allIn
          rw [ed, List.all_cons, h2]
          rfl
        rw [er, cond_false]
        have x := np_q1 c lo hi pm[i] (i : Int) (Int.ofNat pm.length) pm (o :: out) pm
        unfold stNq at x
        rw [h2] at x
        exact x
      | true =>
        rw [cond_true]
        cases h3 : decide (pm[i] ≤ hi) with
        | false =>
          have er : nupR c lo hi pm (pm.drop i) = some (.panic 123 4, hpNp pm) := by
            unfold nupR allIn
            rw [ed, List.all_cons, h2, h3]
            rfl
          rw [er, Bool.not_false, cond_true]
          have x := np_p1 c lo hi pm[i] (i : Int) (Int.ofNat pm.length) false pm (o :: out) pm
          unfold stNp at x
          rw [h2, h3] at x
          exact x
        | true =>
          have er : nupR c lo hi pm (pm.drop i) = nupR c lo hi pm (pm.drop (i + 1)) := by
            unfold nupR allIn
            rw [ed, List.all_cons, h2, h3]
            rfl
          rw [er, Bool.not_true, cond_false, app_eq hlen, Option.bind_some, e0, ← ht, ← et]
          exact key
theorem nup_run {c lo hi p : Int} {pm : List Int} (hl : (p :: pm).length ≤ 2147483648) : runC g106 Tryz.f160 6 [(4, [3, 4, 5, 14, 21, 22, 23])] [nodeA strPA [] [121] (.os 1 0) (.os 0 0), .d .str strPads, .nils, I c, I lo, I hi] (hpNp (p :: pm)) ah = nupR c lo hi (p :: pm) (p :: pm) := by
  have hf : fu = 18446744073709551616 := rfl
  have e1 : app [] (p :: pm) = some (p :: pm) := app_eq (by simp only [List.length_nil, lim]; omega)
  have key : runC g106 Tryz.f160 6 [(4, [3, 4, 5, 14, 21, 22, 23])] [nodeA strPA [] [121] (.os 1 0) (.os 0 0), .d .str strPads, .nils, I c, I lo, I hi] (hpNp (p :: pm)) ah = lp g106 cf_nup (cL (cL (cR (cL (cR (cR (cR C_nup))))))) fu (stNp0 c lo hi (p :: pm) (p :: pm) 0) KNp := (nup_eq c lo hi p pm).trans (by rw [e1, Option.bind_some]; kernel_rfl)
  obtain ⟨n, hn⟩ : ∃ n, fu = n + 1 := ⟨18446744073709551615, rfl⟩
  refine key.trans ?_
  rw [hn, nup_st0, decide_eq_true (show ((0 : Int) < Int.ofNat (p :: pm).length) by simp only [Int.ofNat_eq_natCast, List.length_cons]; omega), cond_true, show idx (p :: pm) 0 = some p from rfl, Option.bind_some, show (p :: pm)[(0 : Int).toNat]? = some p from rfl, Option.bind_some]
  cases h2 : decide (lo ≤ p) with
  | false =>
    have er : nupR c lo hi (p :: pm) (p :: pm) = some (.panic 123 4, hpNp (p :: pm)) := by
      unfold nupR allIn
      rw [List.all_cons, h2]
      rfl
    rw [er, cond_false]
    have x := np_q0 c lo hi p 0 (Int.ofNat (p :: pm).length) (p :: pm) (p :: pm)
    unfold stNq at x
    rw [h2] at x
    exact x
  | true =>
    rw [cond_true]
    cases h3 : decide (p ≤ hi) with
    | false =>
      have er : nupR c lo hi (p :: pm) (p :: pm) = some (.panic 123 4, hpNp (p :: pm)) := by
        unfold nupR allIn
        rw [List.all_cons, h2, h3]
        rfl
      rw [er, Bool.not_false, cond_true]
      have x := np_p0 c lo hi p 0 (Int.ofNat (p :: pm).length) false (p :: pm) (p :: pm)
      unfold stNp at x
      rw [h2, h3] at x
      exact x
    | true =>
      have er : nupR c lo hi (p :: pm) (p :: pm) = nupR c lo hi (p :: pm) ((p :: pm).drop 1) := by
        unfold nupR allIn
        rw [List.all_cons, h2, h3]
        rfl
      rw [er, Bool.not_true, cond_false]
      exact nup_loop hl pm.length 1 n (by simp only [List.length_cons]; omega) (Nat.le_refl _) (by simp only [List.length_cons] at hl; omega)
theorem nuq_eq (c lo hi : Int) : runC g106 Tryz.f160 6 [(4, [3, 4, 5, 14, 21, 22, 23])] [nodeA strPA [] [121] (.os 1 0) (.os 0 0), .d .str strPads, .nils, I c, I lo, I hi] (hpNp []) ah = bif !0 == c then some (AEnd.panic 123 4, [(0, AObj.arr 37 (Ty.str.pair ((i64T).pair ((i64T).pair ((i64T).pair (Ty.str.pair (Y0.pair ((i64T).slice.pair Ty.unit))))))) 0 true [([112, 97, 100, 115], 7, 0, 0, [], (0, [], [], ()), [], ())]), (1, AObj.arr 9 Ty.str 0 false [[120]])]) else some (AEnd.ret [AV.nils], [(0, AObj.arr 37 (Ty.str.pair ((i64T).pair ((i64T).pair ((i64T).pair (Ty.str.pair (Y0.pair ((i64T).slice.pair Ty.unit))))))) 0 true [([112, 97, 100, 115], 7, 0, 0, [], (0, [], [], ()), [], ())]), (1, AObj.arr 9 Ty.str 0 false [[120]])]) := by kernel_rfl
def nupL (c lo hi : Int) : List Int → Tq
  | [] => .br (c != 0) (.leaf (.panic 123 4) (hpNp [])) .no
  | p :: pm => .br (decide ((p :: pm).length ≤ 2147483648)) (.br (numC c lo hi (p :: pm)) (.leaf (.ret [.os 2 0]) (hpNp (p :: pm) ++ [(2, .arr 3 i64T 0 false (p :: pm))])) (.leaf (.panic 123 4) (hpNp (p :: pm)))) .no
def nupT : List AV → LHp → Tq
  | [n, .d .str nm, .nils, .d (.int .i64) c, .d (.int .i64) lo, .d (.int .i64) hi], [(0, .arr 37 ((.pair .str (.pair (.int .i64) (.pair (.int .i64) (.pair (.int .i64) (.pair .str (.pair (.pair (.int .i64) (.pair (.slice (.int .i64)) (.pair (.slice (.int .i64)) .unit))) (.pair (.slice (.int .i64)) .unit)))))))) 0 true [a]), (1, .arr 9 .str 0 false ins)] =>
    (match nodeP n with
    | some (op, nm2, out, .os 1 0, .os 0 0) => gate (decide (op = strPA) && decide (nm2 = []) && decide (out = [121]) && decide (ins = [[120]]) && decide (nm = strPads) && isL a strPads) (nupL c lo hi a.2.2.2.2.2.2.1)
    | _ => .no)
  | _, _ => .no
theorem nupT_ok : FnE.OK e0.P e0.gam 160 (treeE nupT) := by
  have h1 : FnE.OK e0.P e0.gam 160 (execFnC g106 Tryz.f160 6 [(4, [3, 4, 5, 14, 21, 22, 23])]) := y160_ok
  refine ⟨fun _ _ _ => Tq.eq _ _, fun args hs ae hs' h => ?_⟩
  have h' : (nupT args hs).run ah = some (ae, hs') := h
  clear h
  unfold nupT at h'
  split at h'
  · split at h'
    · rename_i c lo hi a ins _ op nm2 out hn
      rw [nodeP_some hn]
      obtain ⟨hb, h2⟩ := gate_run h'
      clear h'
      simp only [Bool.and_eq_true, decide_eq_true_eq] at hb
      obtain ⟨⟨⟨⟨⟨b1, b2⟩, b3⟩, b4⟩, b5⟩, b6⟩ := hb
      subst b1 b2 b3 b4 b5
      obtain ⟨l, rfl⟩ := isL_eq b6
      change (nupL c lo hi l).run ah = _ at h2
      cases l with
      | nil =>
        obtain ⟨hc, h3⟩ := Tq.br_no h2
        refine h1.okC ((nuq_eq c lo hi).trans (Eq.trans ?_ h3))
        rw [show (0 == c) = false by rw [beq_eq_false_iff_ne]; intro e; rw [← e] at hc; cases hc]
        rfl
      | cons p pm =>
        obtain ⟨hl, h3⟩ := Tq.br_no h2
        refine h1.okC ((nup_run (of_decide_eq_true hl)).trans (Eq.trans ?_ h3))
        unfold nupR
        change (bif numC c lo hi (p :: pm) then _ else _) = (bif numC c lo hi (p :: pm) then _ else _)
        cases numC c lo hi (p :: pm) <;> rfl
    · cases h'
  · cases h'
end Go.Proofs.XGT
namespace Go.Proofs.XGT
open Go.Vm Go
set_option maxRecDepth 100000
set_option maxHeartbeats 4000000
noncomputable def C_reb : Code := codeOf Tryz.f79
noncomputable def cf_reb : Cfg := ⟨26, 5, 2, [(5, [0, 1, 2, 3, 4, 5, 6, 14, 15, 16, 17, 18, 19, 20, 21, 22, 23, 24])], true⟩
noncomputable def C_plb : Code := codeOf Tryz.f132
noncomputable def cf_plb : Cfg := ⟨63, 6, 9, [(2, [0, 1, 3, 4]), (4, [0, 1, 3, 4, 5])], true⟩
def vwB (off : Int) (a b : Nat) : AV := .pr (I off) (.pr (.os a 0) (.pr (.os b 0) (.d .unit ())))
def frVb (off : Int) (l : List Int) : Tr := mkFr 5 [(0, vwB off 1 0), (1, .d (.slice i64T) l), (2, .op 2 [] 0), (3, .op 3 [] 0), (4, .op 4 [] 0), (5, .op 5 [] 0), (6, .op 8 [] 0), (8, vwB off 1 0), (9, B true), (10, B false), (11, vwB off 1 0), (12, .fn (.func 132) [] [.op 9 [] 0])]
def hpVb (off : Int) (ds ss l : List Int) : LHp := [(0, .arr 3 i64T 0 false ss), (1, .arr 3 i64T 0 false ds), (9, .box (vwB off 1 0)), (8, .box .nils), (0, .arr 3 i64T 0 false ss), (1, .arr 3 i64T 0 false ds), (5, .box (I 0)), (4, .box .nils), (3, .box (.d (.slice i64T) l)), (2, .box (vwB off 1 0)), (0, .arr 3 i64T 0 false ss), (1, .arr 3 i64T 0 false ds)]
def rfLw (cf : Cfg) : Code → LoopC
  | .rangeFunc _ ps a b => ⟨cf.depth, ps, a, b, cf.n⟩
  | _ => ⟨0, #[], .skip, .skip, 0⟩
noncomputable def LC_reb : LoopC := rfLw cf_reb (cL (cR (cL (cR (cR (cR C_reb))))))
def frecVb (off : Int) (l : List Int) : List (Nat × AV) := [(0, vwB off 7 6), (1, .d (.slice i64T) l), (2, .op 5 [] 0), (3, .op 4 [] 0), (4, .op 3 [] 0), (5, .op 2 [] 0), (6, .op 1 [] 0)]
noncomputable def hpYb (off : Int) (ds ss l : List Int) (o : AV) : LHp := [(0, .box (vwB off 7 6)), (1, .box o), (2, .box (I 0)), (3, .box .nils), (4, .box (.d (.slice i64T) l)), (5, .box (vwB off 7 6)), (6, .arr 3 i64T 0 false ss), (7, .arr 3 i64T 0 false ds), (8, .rc (.loop LC_reb (frecVb off l) .ready))]
noncomputable def frecVbT (off : Int) (l : List Int) : List (Nat × AV) := slotsF ⟨frVb off l, [], 0⟩ (loopLive cf_reb LC_reb.assign)
noncomputable def hpVb2 (off : Int) (ds ss l : List Int) : LHp := (12, .rc (.loop LC_reb (frecVbT off l) .ready)) :: hpVb off ds ss l
noncomputable def hpYbW (off : Int) (ds ss l out : List Int) : LHp := [(0, .box (vwB off 7 6)), (7, .arr 3 i64T 0 false ds), (6, .arr 3 i64T 0 false ss), (1, .box (.os 9 0)), (9, .arr 2 i64T 0 false out), (2, .box (I 0)), (3, .box .nils), (4, .box (.d (.slice i64T) l)), (5, .box (vwB off 7 6)), (8, .rc (.loop LC_reb (frecVb off l) .ready))]
noncomputable def stVb (at_ : Nat) (off : Int) (ds ss l A : List Int) (p : Int) (nx : Nat) (o : AV) (oh : LHp) : LSt := ⟨mkFr 6 [(0, .ref 8), (1, .op 0 [] 0), (3, .os at_ 0), (4, I p)], [(0, .box (vwB off 7 6)), (7, .arr 3 i64T 0 false ds), (6, .arr 3 i64T 0 false ss), (1, .box o)] ++ oh ++ [(2, .box (I 0)), (3, .box .nils), (4, .box (.d (.slice i64T) l)), (5, .box (vwB off 7 6)), (8, .rc (.loop LC_reb (frecVb off l) .ready)), (at_, .arr 3 i64T 0 false A)], nx⟩
noncomputable def stVb0 (off : Int) (ds ss l A : List Int) (p : Int) : LSt := stVb 9 off ds ss l A p 19 .nils []
noncomputable def stVb1 (off : Int) (ds ss l A : List Int) (p : Int) (out : List Int) : LSt := stVb 10 off ds ss l A p 20 (.os 9 0) [(9, .arr 2 i64T 0 false out)]
noncomputable def WKb : AEx → LSt → Option (AEnd × LHp) := (blkK 0 (endC Tryz.prog 9 Tryz.f132.results.toList ah))
end Go.Proofs.XGT
namespace Go.Proofs.XGT
open Go.Vm Go
set_option maxRecDepth 100000
set_option maxHeartbeats 4000000
theorem plb_eqGH (hl : Hl) (off : Int) (ds ss l : List Int) : runH g163 Tryz.f132 6 [(2, [0, 1, 3, 4]), (4, [0, 1, 3, 4, 5])] [2, 4] hl [.ref 8, .op 0 [] 0] (hpYb off ds ss l .nils) ah = (if 0 ≤ Int.ofNat ds.length ∧ Int.ofNat ds.length ≤ 4294967296 then some (List.replicate (Int.ofNat ds.length).toNat 0) else none).bind fun v0 => hl (cL (cL (cR (cR C_plb)))) _ { fr := mkFr 6 [(0, AV.ref 8), (1, AV.op 0 [] 0), (3, AV.os 9 0), (4, I off)], hp := [(0, AObj.box ((I off).pr ((AV.os 7 0).pr ((AV.os 6 0).pr (AV.d Ty.unit PUnit.unit))))), (7, AObj.arr 3 (i64T) 0 false ds), (6, AObj.arr 3 (i64T) 0 false ss), (1, AObj.box AV.nils), (2, AObj.box (I 0)), (3, AObj.box AV.nils), (4, AObj.box (AV.d (i64T).slice l)), (5, AObj.box ((I off).pr ((AV.os 7 0).pr ((AV.os 6 0).pr (AV.d Ty.unit PUnit.unit))))), (8, AObj.rc (ARec.loop LC_reb [(0, (I off).pr ((AV.os 7 0).pr ((AV.os 6 0).pr (AV.d Ty.unit PUnit.unit)))), (1, AV.d (i64T).slice l), (2, AV.op 5 [] 0), (3, AV.op 4 [] 0), (4, AV.op 3 [] 0), (5, AV.op 2 [] 0), (6, AV.op 1 [] 0)] LSta.ready)), (9, AObj.arr 3 (i64T) 0 false v0)], nx := 19 } (blkK 0 (endC Tryz.prog 9 Tryz.f132.results.toList ah)) := by kernel_rfl
theorem plb_eqG (off : Int) (ds ss l : List Int) : runC g163 Tryz.f132 6 [(2, [0, 1, 3, 4]), (4, [0, 1, 3, 4, 5])] [.ref 8, .op 0 [] 0] (hpYb off ds ss l .nils) ah = (if 0 ≤ Int.ofNat ds.length ∧ Int.ofNat ds.length ≤ 4294967296 then some (List.replicate (Int.ofNat ds.length).toNat 0) else none).bind fun v0 => (hlp g163 cf_plb) (cL (cL (cR (cR C_plb)))) _ { fr := mkFr 6 [(0, AV.ref 8), (1, AV.op 0 [] 0), (3, AV.os 9 0), (4, I off)], hp := [(0, AObj.box ((I off).pr ((AV.os 7 0).pr ((AV.os 6 0).pr (AV.d Ty.unit PUnit.unit))))), (7, AObj.arr 3 (i64T) 0 false ds), (6, AObj.arr 3 (i64T) 0 false ss), (1, AObj.box AV.nils), (2, AObj.box (I 0)), (3, AObj.box AV.nils), (4, AObj.box (AV.d (i64T).slice l)), (5, AObj.box ((I off).pr ((AV.os 7 0).pr ((AV.os 6 0).pr (AV.d Ty.unit PUnit.unit))))), (8, AObj.rc (ARec.loop LC_reb [(0, (I off).pr ((AV.os 7 0).pr ((AV.os 6 0).pr (AV.d Ty.unit PUnit.unit)))), (1, AV.d (i64T).slice l), (2, AV.op 5 [] 0), (3, AV.op 4 [] 0), (4, AV.op 3 [] 0), (5, AV.op 2 [] 0), (6, AV.op 1 [] 0)] LSta.ready)), (9, AObj.arr 3 (i64T) 0 false v0)], nx := 19 } (blkK 0 (endC Tryz.prog 9 Tryz.f132.results.toList ah)) := runH_runC.trans (plb_eqGH (hlp g163 cf_plb) off ds ss l)
theorem bG_st0H (hl : Hl) (off : Int) (ds ss l A : List Int) (p : Int) (n : Nat) {R : Type} (k : AEx → LSt → Option R) : lpH g163 cf_plb [2, 4] hl (cL (cL (cR (cR C_plb)))) (n + 1) (stVb0 off ds ss l A p) k = bif decide (p ≥ Int.ofNat l.length) then k AEx.ret { fr := mkFr 6 [(0, AV.ref 8), (1, AV.op 0 [] 0), (3, AV.os 9 0), (4, I p), (12, AV.ref 8), (13, I p), (14, B false), (15, B true)], hp := [(1, AObj.box AV.nils), (2, AObj.box (I 1)), (3, AObj.box AV.nils), (4, AObj.box (AV.d (i64T).slice l)), (5, AObj.box ((I off).pr ((AV.os 7 0).pr ((AV.os 6 0).pr (AV.d Ty.unit PUnit.unit))))), (6, AObj.arr 3 (i64T) 0 false ss), (7, AObj.arr 3 (i64T) 0 false ds), (8, AObj.rc (ARec.loop LC_reb [(0, (I off).pr ((AV.os 7 0).pr ((AV.os 6 0).pr (AV.d Ty.unit PUnit.unit)))), (1, AV.d (i64T).slice l), (2, AV.op 5 [] 0), (3, AV.op 4 [] 0), (4, AV.op 3 [] 0), (5, AV.op 2 [] 0), (6, AV.op 1 [] 0)] (LSta.done Jmp.ret))), (0, AObj.box ((I off).pr ((AV.os 7 0).pr ((AV.os 6 0).pr (AV.d Ty.unit PUnit.unit))))), (7, AObj.arr 3 (i64T) 0 false ds), (6, AObj.arr 3 (i64T) 0 false ss), (1, AObj.box AV.nils), (2, AObj.box (I 0)), (3, AObj.box AV.nils), (4, AObj.box (AV.d (i64T).slice l)), (5, AObj.box ((I off).pr ((AV.os 7 0).pr ((AV.os 6 0).pr (AV.d Ty.unit PUnit.unit))))), (8, AObj.rc (ARec.loop LC_reb [(0, (I off).pr ((AV.os 7 0).pr ((AV.os 6 0).pr (AV.d Ty.unit PUnit.unit)))), (1, AV.d (i64T).slice l), (2, AV.op 5 [] 0), (3, AV.op 4 [] 0), (4, AV.op 3 [] 0), (5, AV.op 2 [] 0), (6, AV.op 1 [] 0)] LSta.ready)), (9, AObj.arr 3 (i64T) 0 false A)], nx := 27 } else (idx l p).bind fun v1 => hl (cL (cL (cL (cR (cR (cL (cL (cL (cR (cR C_plb)))))))))) _ { fr := mkFr 6 [(0, AV.ref 8), (1, AV.op 0 [] 0), (3, AV.os 10 0), (4, I p), (5, I (IntKind.i64.wrap (Int.ofNat A.length - 1)))], hp := [(0, AObj.box ((I off).pr ((AV.os 7 0).pr ((AV.os 6 0).pr (AV.d Ty.unit PUnit.unit))))), (7, AObj.arr 3 (i64T) 0 false ds), (6, AObj.arr 3 (i64T) 0 false ss), (1, AObj.box (AV.os 9 0)), (9, AObj.arr 2 (i64T) 0 false [v1]), (2, AObj.box (I 0)), (3, AObj.box AV.nils), (4, AObj.box (AV.d (i64T).slice l)), (5, AObj.box ((I off).pr ((AV.os 7 0).pr ((AV.os 6 0).pr (AV.d Ty.unit PUnit.unit))))), (8, AObj.rc (ARec.loop LC_reb [(0, (I off).pr ((AV.os 7 0).pr ((AV.os 6 0).pr (AV.d Ty.unit PUnit.unit)))), (1, AV.d (i64T).slice l), (2, AV.op 5 [] 0), (3, AV.op 4 [] 0), (4, AV.op 3 [] 0), (5, AV.op 2 [] 0), (6, AV.op 1 [] 0)] LSta.ready)), (10, AObj.arr 3 (i64T) 0 false A)], nx := 20 } (blkK 2 (seqH g163 cf_plb [2, 4] hl (cR (cR (cR (cL (cL (cL (cR (cR C_plb)))))))) (blkK 1 (nxtH g163 cf_plb [2, 4] hl (cL (cL (cR (cR C_plb)))) n k)))) := by kernel_rfl
theorem bG_st0 (off : Int) (ds ss l A : List Int) (p : Int) (n : Nat) {R : Type} (k : AEx → LSt → Option R) : lp g163 cf_plb (cL (cL (cR (cR C_plb)))) (n + 1) (stVb0 off ds ss l A p) k = bif decide (p ≥ Int.ofNat l.length) then k AEx.ret { fr := mkFr 6 [(0, AV.ref 8), (1, AV.op 0 [] 0), (3, AV.os 9 0), (4, I p), (12, AV.ref 8), (13, I p), (14, B false), (15, B true)], hp := [(1, AObj.box AV.nils), (2, AObj.box (I 1)), (3, AObj.box AV.nils), (4, AObj.box (AV.d (i64T).slice l)), (5, AObj.box ((I off).pr ((AV.os 7 0).pr ((AV.os 6 0).pr (AV.d Ty.unit PUnit.unit))))), (6, AObj.arr 3 (i64T) 0 false ss), (7, AObj.arr 3 (i64T) 0 false ds), (8, AObj.rc (ARec.loop LC_reb [(0, (I off).pr ((AV.os 7 0).pr ((AV.os 6 0).pr (AV.d Ty.unit PUnit.unit)))), (1, AV.d (i64T).slice l), (2, AV.op 5 [] 0), (3, AV.op 4 [] 0), (4, AV.op 3 [] 0), (5, AV.op 2 [] 0), (6, AV.op 1 [] 0)] (LSta.done Jmp.ret))), (0, AObj.box ((I off).pr ((AV.os 7 0).pr ((AV.os 6 0).pr (AV.d Ty.unit PUnit.unit))))), (7, AObj.arr 3 (i64T) 0 false ds), (6, AObj.arr 3 (i64T) 0 false ss), (1, AObj.box AV.nils), (2, AObj.box (I 0)), (3, AObj.box AV.nils), (4, AObj.box (AV.d (i64T).slice l)), (5, AObj.box ((I off).pr ((AV.os 7 0).pr ((AV.os 6 0).pr (AV.d Ty.unit PUnit.unit))))), (8, AObj.rc (ARec.loop LC_reb [(0, (I off).pr ((AV.os 7 0).pr ((AV.os 6 0).pr (AV.d Ty.unit PUnit.unit)))), (1, AV.d (i64T).slice l), (2, AV.op 5 [] 0), (3, AV.op 4 [] 0), (4, AV.op 3 [] 0), (5, AV.op 2 [] 0), (6, AV.op 1 [] 0)] LSta.ready)), (9, AObj.arr 3 (i64T) 0 false A)], nx := 27 } else (idx l p).bind fun v1 => (hlp g163 cf_plb) (cL (cL (cL (cR (cR (cL (cL (cL (cR (cR C_plb)))))))))) _ { fr := mkFr 6 [(0, AV.ref 8), (1, AV.op 0 [] 0), (3, AV.os 10 0), (4, I p), (5, I (IntKind.i64.wrap (Int.ofNat A.length - 1)))], hp := [(0, AObj.box ((I off).pr ((AV.os 7 0).pr ((AV.os 6 0).pr (AV.d Ty.unit PUnit.unit))))), (7, AObj.arr 3 (i64T) 0 false ds), (6, AObj.arr 3 (i64T) 0 false ss), (1, AObj.box (AV.os 9 0)), (9, AObj.arr 2 (i64T) 0 false [v1]), (2, AObj.box (I 0)), (3, AObj.box AV.nils), (4, AObj.box (AV.d (i64T).slice l)), (5, AObj.box ((I off).pr ((AV.os 7 0).pr ((AV.os 6 0).pr (AV.d Ty.unit PUnit.unit))))), (8, AObj.rc (ARec.loop LC_reb [(0, (I off).pr ((AV.os 7 0).pr ((AV.os 6 0).pr (AV.d Ty.unit PUnit.unit)))), (1, AV.d (i64T).slice l), (2, AV.op 5 [] 0), (3, AV.op 4 [] 0), (4, AV.op 3 [] 0), (5, AV.op 2 [] 0), (6, AV.op 1 [] 0)] LSta.ready)), (10, AObj.arr 3 (i64T) 0 false A)], nx := 20 } (blkK 2 (seqH g163 cf_plb [2, 4] (hlp g163 cf_plb) (cR (cR (cR (cL (cL (cL (cR (cR C_plb)))))))) (blkK 1 (nxtH g163 cf_plb [2, 4] (hlp g163 cf_plb) (cL (cL (cR (cR C_plb)))) n k)))) := by
  have h := bG_st0H (hlp g163 cf_plb) off ds ss l A p n k
  simp only [lpH_lp] at h
  exact h
theorem bG_st1H (hl : Hl) (off : Int) (ds ss l A : List Int) (p o : Int) (out : List Int) (n : Nat) {R : Type} (k : AEx → LSt → Option R) : lpH g163 cf_plb [2, 4] hl (cL (cL (cR (cR C_plb)))) (n + 1) (stVb1 off ds ss l A p (o :: out)) k = bif decide (p ≥ Int.ofNat l.length) then k AEx.ret { fr := mkFr 6 [(0, AV.ref 8), (1, AV.op 0 [] 0), (3, AV.os 10 0), (4, I p), (12, AV.ref 8), (13, I p), (14, B false), (15, B true)], hp := [(9, AObj.arr 2 (i64T) 0 false (o :: out)), (1, AObj.box (AV.os 9 0)), (2, AObj.box (I 1)), (3, AObj.box AV.nils), (4, AObj.box (AV.d (i64T).slice l)), (5, AObj.box ((I off).pr ((AV.os 7 0).pr ((AV.os 6 0).pr (AV.d Ty.unit PUnit.unit))))), (6, AObj.arr 3 (i64T) 0 false ss), (7, AObj.arr 3 (i64T) 0 false ds), (8, AObj.rc (ARec.loop LC_reb [(0, (I off).pr ((AV.os 7 0).pr ((AV.os 6 0).pr (AV.d Ty.unit PUnit.unit)))), (1, AV.d (i64T).slice l), (2, AV.op 5 [] 0), (3, AV.op 4 [] 0), (4, AV.op 3 [] 0), (5, AV.op 2 [] 0), (6, AV.op 1 [] 0)] (LSta.done Jmp.ret))), (0, AObj.box ((I off).pr ((AV.os 7 0).pr ((AV.os 6 0).pr (AV.d Ty.unit PUnit.unit))))), (7, AObj.arr 3 (i64T) 0 false ds), (6, AObj.arr 3 (i64T) 0 false ss), (1, AObj.box (AV.os 9 0)), (9, AObj.arr 2 (i64T) 0 false (o :: out)), (2, AObj.box (I 0)), (3, AObj.box AV.nils), (4, AObj.box (AV.d (i64T).slice l)), (5, AObj.box ((I off).pr ((AV.os 7 0).pr ((AV.os 6 0).pr (AV.d Ty.unit PUnit.unit))))), (8, AObj.rc (ARec.loop LC_reb [(0, (I off).pr ((AV.os 7 0).pr ((AV.os 6 0).pr (AV.d Ty.unit PUnit.unit)))), (1, AV.d (i64T).slice l), (2, AV.op 5 [] 0), (3, AV.op 4 [] 0), (4, AV.op 3 [] 0), (5, AV.op 2 [] 0), (6, AV.op 1 [] 0)] LSta.ready)), (10, AObj.arr 3 (i64T) 0 false A)], nx := 29 } else (idx l p).bind fun v1 => (app (o :: out) [v1]).bind fun v2 => hl (cL (cL (cL (cR (cR (cL (cL (cL (cR (cR C_plb)))))))))) _ { fr := mkFr 6 [(0, AV.ref 8), (1, AV.op 0 [] 0), (3, AV.os 10 0), (4, I p), (5, I (IntKind.i64.wrap (Int.ofNat A.length - 1)))], hp := [(0, AObj.box ((I off).pr ((AV.os 7 0).pr ((AV.os 6 0).pr (AV.d Ty.unit PUnit.unit))))), (7, AObj.arr 3 (i64T) 0 false ds), (6, AObj.arr 3 (i64T) 0 false ss), (1, AObj.box (AV.os 9 0)), (9, AObj.arr 2 (i64T) 0 false v2), (2, AObj.box (I 0)), (3, AObj.box AV.nils), (4, AObj.box (AV.d (i64T).slice l)), (5, AObj.box ((I off).pr ((AV.os 7 0).pr ((AV.os 6 0).pr (AV.d Ty.unit PUnit.unit))))), (8, AObj.rc (ARec.loop LC_reb [(0, (I off).pr ((AV.os 7 0).pr ((AV.os 6 0).pr (AV.d Ty.unit PUnit.unit)))), (1, AV.d (i64T).slice l), (2, AV.op 5 [] 0), (3, AV.op 4 [] 0), (4, AV.op 3 [] 0), (5, AV.op 2 [] 0), (6, AV.op 1 [] 0)] LSta.ready)), (10, AObj.arr 3 (i64T) 0 false A)], nx := 20 } (blkK 2 (seqH g163 cf_plb [2, 4] hl (cR (cR (cR (cL (cL (cL (cR (cR C_plb)))))))) (blkK 1 (nxtH g163 cf_plb [2, 4] hl (cL (cL (cR (cR C_plb)))) n k)))) := by kernel_rfl
theorem bG_st1 (off : Int) (ds ss l A : List Int) (p o : Int) (out : List Int) (n : Nat) {R : Type} (k : AEx → LSt → Option R) : lp g163 cf_plb (cL (cL (cR (cR C_plb)))) (n + 1) (stVb1 off ds ss l A p (o :: out)) k = bif decide (p ≥ Int.ofNat l.length) then k AEx.ret { fr := mkFr 6 [(0, AV.ref 8), (1, AV.op 0 [] 0), (3, AV.os 10 0), (4, I p), (12, AV.ref 8), (13, I p), (14, B false), (15, B true)], hp := [(9, AObj.arr 2 (i64T) 0 false (o :: out)), (1, AObj.box (AV.os 9 0)), (2, AObj.box (I 1)), (3, AObj.box AV.nils), (4, AObj.box (AV.d (i64T).slice l)), (5, AObj.box ((I off).pr ((AV.os 7 0).pr ((AV.os 6 0).pr (AV.d Ty.unit PUnit.unit))))), (6, AObj.arr 3 (i64T) 0 false ss), (7, AObj.arr 3 (i64T) 0 false ds), (8, AObj.rc (ARec.loop LC_reb [(0, (I off).pr ((AV.os 7 0).pr ((AV.os 6 0).pr (AV.d Ty.unit PUnit.unit)))), (1, AV.d (i64T).slice l), (2, AV.op 5 [] 0), (3, AV.op 4 [] 0), (4, AV.op 3 [] 0), (5, AV.op 2 [] 0), (6, AV.op 1 [] 0)] (LSta.done Jmp.ret))), (0, AObj.box ((I off).pr ((AV.os 7 0).pr ((AV.os 6 0).pr (AV.d Ty.unit PUnit.unit))))), (7, AObj.arr 3 (i64T) 0 false ds), (6, AObj.arr 3 (i64T) 0 false ss), (1, AObj.box (AV.os 9 0)), (9, AObj.arr 2 (i64T) 0 false (o :: out)), (2, AObj.box (I 0)), (3, AObj.box AV.nils), (4, AObj.box (AV.d (i64T).slice l)), (5, AObj.box ((I off).pr ((AV.os 7 0).pr ((AV.os 6 0).pr (AV.d Ty.unit PUnit.unit))))), (8, AObj.rc (ARec.loop LC_reb [(0, (I off).pr ((AV.os 7 0).pr ((AV.os 6 0).pr (AV.d Ty.unit PUnit.unit)))), (1, AV.d (i64T).slice l), (2, AV.op 5 [] 0), (3, AV.op 4 [] 0), (4, AV.op 3 [] 0), (5, AV.op 2 [] 0), (6, AV.op 1 [] 0)] LSta.ready)), (10, AObj.arr 3 (i64T) 0 false A)], nx := 29 } else (idx l p).bind fun v1 => (app (o :: out) [v1]).bind fun v2 => (hlp g163 cf_plb) (cL (cL (cL (cR (cR (cL (cL (cL (cR (cR C_plb)))))))))) _ { fr := mkFr 6 [(0, AV.ref 8), (1, AV.op 0 [] 0), (3, AV.os 10 0), (4, I p), (5, I (IntKind.i64.wrap (Int.ofNat A.length - 1)))], hp := [(0, AObj.box ((I off).pr ((AV.os 7 0).pr ((AV.os 6 0).pr (AV.d Ty.unit PUnit.unit))))), (7, AObj.arr 3 (i64T) 0 false ds), (6, AObj.arr 3 (i64T) 0 false ss), (1, AObj.box (AV.os 9 0)), (9, AObj.arr 2 (i64T) 0 false v2), (2, AObj.box (I 0)), (3, AObj.box AV.nils), (4, AObj.box (AV.d (i64T).slice l)), (5, AObj.box ((I off).pr ((AV.os 7 0).pr ((AV.os 6 0).pr (AV.d Ty.unit PUnit.unit))))), (8, AObj.rc (ARec.loop LC_reb [(0, (I off).pr ((AV.os 7 0).pr ((AV.os 6 0).pr (AV.d Ty.unit PUnit.unit)))), (1, AV.d (i64T).slice l), (2, AV.op 5 [] 0), (3, AV.op 4 [] 0), (4, AV.op 3 [] 0), (5, AV.op 2 [] 0), (6, AV.op 1 [] 0)] LSta.ready)), (10, AObj.arr 3 (i64T) 0 false A)], nx := 20 } (blkK 2 (seqH g163 cf_plb [2, 4] (hlp g163 cf_plb) (cR (cR (cR (cL (cL (cL (cR (cR C_plb)))))))) (blkK 1 (nxtH g163 cf_plb [2, 4] (hlp g163 cf_plb) (cL (cL (cR (cR C_plb)))) n k)))) := by
  have h := bG_st1H (hlp g163 cf_plb) off ds ss l A p o out n k
  simp only [lpH_lp] at h
  exact h
noncomputable def stVi (off : Int) (ds ss l A : List Int) (p : Int) (out : List Int) (i : Int) : LSt := ⟨mkFr 6 [(0, .ref 8), (1, .op 0 [] 0), (3, .os 10 0), (4, I p), (5, I i)], (stVb1 off ds ss l A p out).hp, 20⟩
theorem bI_stH (hl : Hl) (off : Int) (ds ss l A : List Int) (p : Int) (out : List Int) (i : Int) (n : Nat) {R : Type} (k : AEx → LSt → Option R) : lpH g163 cf_plb [2, 4] hl (cL (cL (cL (cR (cR (cL (cL (cL (cR (cR C_plb)))))))))) (n + 1) (stVi off ds ss l A p out i) k = bif decide (i ≥ 0) then (idx A i).bind fun v1 => (A[i.toNat]?).bind fun v2 => (idx A i).bind fun v3 => (setN A i.toNat (IntKind.i64.wrap (v2 + 1))).bind fun v4 => (idx ss i).bind fun v5 => (ss[i.toNat]?).bind fun v6 => (idx v4 i).bind fun v7 => (v4[i.toNat]?).bind fun v8 => (idx ds i).bind fun v9 => (ds[i.toNat]?).bind fun v10 => bif decide (v8 < v10) then k (AEx.exit 2) { fr := mkFr 6 [(0, AV.ref 8), (1, AV.op 0 [] 0), (3, AV.os 10 0), (4, I (IntKind.i64.wrap (p + v6))), (5, I i), (19, I i), (20, B true), (23, AV.os 10 0), (24, I i), (25, AV.oe 10 0 i.toNat), (26, I v2), (27, I (IntKind.i64.wrap (v2 + 1))), (28, AV.oe 10 0 i.toNat), (29, I p), (30, AV.op 0 [2] 2), (31, AV.os 6 0), (32, I i), (33, AV.oe 6 0 i.toNat), (34, I v6), (35, I (IntKind.i64.wrap (p + v6))), (36, AV.os 10 0), (37, I i), (38, AV.oe 10 0 i.toNat), (39, I v8), (40, AV.op 0 [1] 1), (41, AV.os 7 0), (42, I i), (43, AV.oe 7 0 i.toNat), (44, I v10), (45, B true)], hp := [(10, AObj.arr 3 (i64T) 0 false v4), (0, AObj.box ((I off).pr ((AV.os 7 0).pr ((AV.os 6 0).pr (AV.d Ty.unit PUnit.unit))))), (7, AObj.arr 3 (i64T) 0 false ds), (6, AObj.arr 3 (i64T) 0 false ss), (1, AObj.box (AV.os 9 0)), (9, AObj.arr 2 (i64T) 0 false out), (2, AObj.box (I 0)), (3, AObj.box AV.nils), (4, AObj.box (AV.d (i64T).slice l)), (5, AObj.box ((I off).pr ((AV.os 7 0).pr ((AV.os 6 0).pr (AV.d Ty.unit PUnit.unit))))), (8, AObj.rc (ARec.loop LC_reb [(0, (I off).pr ((AV.os 7 0).pr ((AV.os 6 0).pr (AV.d Ty.unit PUnit.unit)))), (1, AV.d (i64T).slice l), (2, AV.op 5 [] 0), (3, AV.op 4 [] 0), (4, AV.op 3 [] 0), (5, AV.op 2 [] 0), (6, AV.op 1 [] 0)] LSta.ready)), (10, AObj.arr 3 (i64T) 0 false A)], nx := 20 } else (idx v4 i).bind fun v12 => (v4[i.toNat]?).bind fun v13 => (idx ss i).bind fun v14 => (ss[i.toNat]?).bind fun v15 => (idx v4 i).bind fun v16 => (setN v4 i.toNat 0).bind fun v17 => lpH g163 cf_plb [2, 4] hl (cL (cL (cL (cR (cR (cL (cL (cL (cR (cR C_plb)))))))))) n { fr := mkFr 6 [(0, AV.ref 8), (1, AV.op 0 [] 0), (3, AV.os 10 0), (4, I (IntKind.i64.wrap (IntKind.i64.wrap (p + v6) - IntKind.i64.wrap (v13 * v15)))), (5, I (IntKind.i64.wrap (i - 1)))], hp := [(0, AObj.box ((I off).pr ((AV.os 7 0).pr ((AV.os 6 0).pr (AV.d Ty.unit PUnit.unit))))), (7, AObj.arr 3 (i64T) 0 false ds), (6, AObj.arr 3 (i64T) 0 false ss), (1, AObj.box (AV.os 9 0)), (9, AObj.arr 2 (i64T) 0 false out), (2, AObj.box (I 0)), (3, AObj.box AV.nils), (4, AObj.box (AV.d (i64T).slice l)), (5, AObj.box ((I off).pr ((AV.os 7 0).pr ((AV.os 6 0).pr (AV.d Ty.unit PUnit.unit))))), (8, AObj.rc (ARec.loop LC_reb [(0, (I off).pr ((AV.os 7 0).pr ((AV.os 6 0).pr (AV.d Ty.unit PUnit.unit)))), (1, AV.d (i64T).slice l), (2, AV.op 5 [] 0), (3, AV.op 4 [] 0), (4, AV.op 3 [] 0), (5, AV.op 2 [] 0), (6, AV.op 1 [] 0)] LSta.ready)), (10, AObj.arr 3 (i64T) 0 false v17)], nx := 20 } k else k (AEx.exit 2) { fr := mkFr 6 [(0, AV.ref 8), (1, AV.op 0 [] 0), (3, AV.os 10 0), (4, I p), (5, I i), (19, I i), (20, B false)], hp := [(0, AObj.box ((I off).pr ((AV.os 7 0).pr ((AV.os 6 0).pr (AV.d Ty.unit PUnit.unit))))), (7, AObj.arr 3 (i64T) 0 false ds), (6, AObj.arr 3 (i64T) 0 false ss), (1, AObj.box (AV.os 9 0)), (9, AObj.arr 2 (i64T) 0 false out), (2, AObj.box (I 0)), (3, AObj.box AV.nils), (4, AObj.box (AV.d (i64T).slice l)), (5, AObj.box ((I off).pr ((AV.os 7 0).pr ((AV.os 6 0).pr (AV.d Ty.unit PUnit.unit))))), (8, AObj.rc (ARec.loop LC_reb [(0, (I off).pr ((AV.os 7 0).pr ((AV.os 6 0).pr (AV.d Ty.unit PUnit.unit)))), (1, AV.d (i64T).slice l), (2, AV.op 5 [] 0), (3, AV.op 4 [] 0), (4, AV.op 3 [] 0), (5, AV.op 2 [] 0), (6, AV.op 1 [] 0)] LSta.ready)), (10, AObj.arr 3 (i64T) 0 false A)], nx := 20 } := by kernel_rfl
theorem bI_st (off : Int) (ds ss l A : List Int) (p : Int) (out : List Int) (i : Int) (n : Nat) {R : Type} (k : AEx → LSt → Option R) : lp g163 cf_plb (cL (cL (cL (cR (cR (cL (cL (cL (cR (cR C_plb)))))))))) (n + 1) (stVi off ds ss l A p out i) k = bif decide (i ≥ 0) then (idx A i).bind fun v1 => (A[i.toNat]?).bind fun v2 => (idx A i).bind fun v3 => (setN A i.toNat (IntKind.i64.wrap (v2 + 1))).bind fun v4 => (idx ss i).bind fun v5 => (ss[i.toNat]?).bind fun v6 => (idx v4 i).bind fun v7 => (v4[i.toNat]?).bind fun v8 => (idx ds i).bind fun v9 => (ds[i.toNat]?).bind fun v10 => bif decide (v8 < v10) then k (AEx.exit 2) { fr := mkFr 6 [(0, AV.ref 8), (1, AV.op 0 [] 0), (3, AV.os 10 0), (4, I (IntKind.i64.wrap (p + v6))), (5, I i), (19, I i), (20, B true), (23, AV.os 10 0), (24, I i), (25, AV.oe 10 0 i.toNat), (26, I v2), (27, I (IntKind.i64.wrap (v2 + 1))), (28, AV.oe 10 0 i.toNat), (29, I p), (30, AV.op 0 [2] 2), (31, AV.os 6 0), (32, I i), (33, AV.oe 6 0 i.toNat), (34, I v6), (35, I (IntKind.i64.wrap (p + v6))), (36, AV.os 10 0), (37, I i), (38, AV.oe 10 0 i.toNat), (39, I v8), (40, AV.op 0 [1] 1), (41, AV.os 7 0), (42, I i), (43, AV.oe 7 0 i.toNat), (44, I v10), (45, B true)], hp := [(10, AObj.arr 3 (i64T) 0 false v4), (0, AObj.box ((I off).pr ((AV.os 7 0).pr ((AV.os 6 0).pr (AV.d Ty.unit PUnit.unit))))), (7, AObj.arr 3 (i64T) 0 false ds), (6, AObj.arr 3 (i64T) 0 false ss), (1, AObj.box (AV.os 9 0)), (9, AObj.arr 2 (i64T) 0 false out), (2, AObj.box (I 0)), (3, AObj.box AV.nils), (4, AObj.box (AV.d (i64T).slice l)), (5, AObj.box ((I off).pr ((AV.os 7 0).pr ((AV.os 6 0).pr (AV.d Ty.unit PUnit.unit))))), (8, AObj.rc (ARec.loop LC_reb [(0, (I off).pr ((AV.os 7 0).pr ((AV.os 6 0).pr (AV.d Ty.unit PUnit.unit)))), (1, AV.d (i64T).slice l), (2, AV.op 5 [] 0), (3, AV.op 4 [] 0), (4, AV.op 3 [] 0), (5, AV.op 2 [] 0), (6, AV.op 1 [] 0)] LSta.ready)), (10, AObj.arr 3 (i64T) 0 false A)], nx := 20 } else (idx v4 i).bind fun v12 => (v4[i.toNat]?).bind fun v13 => (idx ss i).bind fun v14 => (ss[i.toNat]?).bind fun v15 => (idx v4 i).bind fun v16 => (setN v4 i.toNat 0).bind fun v17 => lp g163 cf_plb (cL (cL (cL (cR (cR (cL (cL (cL (cR (cR C_plb)))))))))) n { fr := mkFr 6 [(0, AV.ref 8), (1, AV.op 0 [] 0), (3, AV.os 10 0), (4, I (IntKind.i64.wrap (IntKind.i64.wrap (p + v6) - IntKind.i64.wrap (v13 * v15)))), (5, I (IntKind.i64.wrap (i - 1)))], hp := [(0, AObj.box ((I off).pr ((AV.os 7 0).pr ((AV.os 6 0).pr (AV.d Ty.unit PUnit.unit))))), (7, AObj.arr 3 (i64T) 0 false ds), (6, AObj.arr 3 (i64T) 0 false ss), (1, AObj.box (AV.os 9 0)), (9, AObj.arr 2 (i64T) 0 false out), (2, AObj.box (I 0)), (3, AObj.box AV.nils), (4, AObj.box (AV.d (i64T).slice l)), (5, AObj.box ((I off).pr ((AV.os 7 0).pr ((AV.os 6 0).pr (AV.d Ty.unit PUnit.unit))))), (8, AObj.rc (ARec.loop LC_reb [(0, (I off).pr ((AV.os 7 0).pr ((AV.os 6 0).pr (AV.d Ty.unit PUnit.unit)))), (1, AV.d (i64T).slice l), (2, AV.op 5 [] 0), (3, AV.op 4 [] 0), (4, AV.op 3 [] 0), (5, AV.op 2 [] 0), (6, AV.op 1 [] 0)] LSta.ready)), (10, AObj.arr 3 (i64T) 0 false v17)], nx := 20 } k else k (AEx.exit 2) { fr := mkFr 6 [(0, AV.ref 8), (1, AV.op 0 [] 0), (3, AV.os 10 0), (4, I p), (5, I i), (19, I i), (20, B false)], hp := [(0, AObj.box ((I off).pr ((AV.os 7 0).pr ((AV.os 6 0).pr (AV.d Ty.unit PUnit.unit))))), (7, AObj.arr 3 (i64T) 0 false ds), (6, AObj.arr 3 (i64T) 0 false ss), (1, AObj.box (AV.os 9 0)), (9, AObj.arr 2 (i64T) 0 false out), (2, AObj.box (I 0)), (3, AObj.box AV.nils), (4, AObj.box (AV.d (i64T).slice l)), (5, AObj.box ((I off).pr ((AV.os 7 0).pr ((AV.os 6 0).pr (AV.d Ty.unit PUnit.unit))))), (8, AObj.rc (ARec.loop LC_reb [(0, (I off).pr ((AV.os 7 0).pr ((AV.os 6 0).pr (AV.d Ty.unit PUnit.unit)))), (1, AV.d (i64T).slice l), (2, AV.op 5 [] 0), (3, AV.op 4 [] 0), (4, AV.op 3 [] 0), (5, AV.op 2 [] 0), (6, AV.op 1 [] 0)] LSta.ready)), (10, AObj.arr 3 (i64T) 0 false A)], nx := 20 } := by
  have h := bI_stH (hlp g163 cf_plb) off ds ss l A p out i n k
  simp only [lpH_lp] at h
  exact h
noncomputable def KIv {R : Type} (n : Nat) (k : AEx → LSt → Option R) : AEx → LSt → Option R := (blkK 2 (seqH g163 cf_plb [2, 4] (hlp g163 cf_plb) (cR (cR (cR (cL (cL (cL (cR (cR C_plb)))))))) (blkK 1 (nxtH g163 cf_plb [2, 4] (hlp g163 cf_plb) (cL (cL (cR (cR C_plb)))) n k))))
noncomputable def stBrk (off : Int) (ds ss l A A2 : List Int) (p p2 : Int) (out : List Int) (i a b s c d : Int) : LSt := ⟨mkFr 6 [(0, AV.ref 8), (1, AV.op 0 [] 0), (3, AV.os 10 0), (4, I p2), (5, I i), (19, I i), (20, B true), (23, AV.os 10 0), (24, I i), (25, AV.oe 10 0 i.toNat), (26, I a), (27, I b), (28, AV.oe 10 0 i.toNat), (29, I p), (30, AV.op 0 [2] 2), (31, AV.os 6 0), (32, I i), (33, AV.oe 6 0 i.toNat), (34, I s), (35, I p2), (36, AV.os 10 0), (37, I i), (38, AV.oe 10 0 i.toNat), (39, I c), (40, AV.op 0 [1] 1), (41, AV.os 7 0), (42, I i), (43, AV.oe 7 0 i.toNat), (44, I d), (45, B true)], (10, AObj.arr 3 i64T 0 false A2) :: (stVb1 off ds ss l A p out).hp, 20⟩
noncomputable def stFin (off : Int) (ds ss l A : List Int) (p : Int) (out : List Int) (i : Int) : LSt := ⟨mkFr 6 [(0, AV.ref 8), (1, AV.op 0 [] 0), (3, AV.os 10 0), (4, I p), (5, I i), (19, I i), (20, B false)], (stVb1 off ds ss l A p out).hp, 20⟩
theorem KI_brk (off : Int) (ds ss l A A2 : List Int) (p p2 : Int) (out : List Int) (j : Nat) (a b s c d : Int) (n : Nat) {R : Type} (k : AEx → LSt → Option R) : KIv n k (.exit 2) (stBrk off ds ss l A A2 p p2 out (Int.ofNat j) a b s c d) = lp g163 cf_plb (cL (cL (cR (cR C_plb)))) n (stVb1 off ds ss l A2 p2 out) k :=
  Eq.trans (b := lpH g163 cf_plb [2, 4] (hlp g163 cf_plb) (cL (cL (cR (cR C_plb)))) n (stVb1 off ds ss l A2 p2 out) k) (by kernel_rfl) lpH_lp
noncomputable def stRet (off : Int) (ds ss l A : List Int) (p : Int) (out : List Int) : LSt := ⟨mkFr 6 [(0, .ref 8), (1, .op 0 [] 0), (3, .os 10 0), (4, I p), (5, I (-1)), (19, I (-1)), (20, B false), (61, I (-1)), (62, B true)], (stVb1 off ds ss l A p out).hp, 20⟩
theorem KI_fin (off : Int) (ds ss l A : List Int) (p : Int) (out : List Int) (n : Nat) {R : Type} (k : AEx → LSt → Option R) : KIv n k (.exit 2) (stFin off ds ss l A p out (-1)) = k .ret (stRet off ds ss l A p out) := by kernel_rfl
theorem WKb_ret (off : Int) (ds ss l A : List Int) (p : Int) (out : List Int) : WKb .ret (stRet off ds ss l A p out) = some (.ret [], hpYbW off ds ss l out) := by kernel_rfl
end Go.Proofs.XGT
namespace Go.Proofs.XGT
open Go.Vm Go
set_option maxRecDepth 100000
set_option maxHeartbeats 1000000
def prodN : List Nat → Nat
  | [] => 1
  | d :: r => d * prodN r
def dig : List Nat → Nat → List Nat
  | [], _ => []
  | _ :: r, q => q / prodN r :: dig r (q % prodN r)
def dot : List Nat → List Nat → Nat
  | a :: r, s :: t => a * s + dot r t
  | _, _ => 0
def ints (l : List Nat) : List Int := l.map (fun n : Nat => (n : Int))
theorem ints_cons (a : Nat) (l : List Nat) : ints (a :: l) = (a : Int) :: ints l := rfl
theorem ints_len (l : List Nat) : (ints l).length = l.length := by simp [ints]
theorem dig_len : ∀ (ds : List Nat) (q : Nat), (dig ds q).length = ds.length
  | [], _ => rfl
  | _ :: r, q => by simp only [dig, List.length_cons, dig_len r]
theorem dot_zero : ∀ (ds t : List Nat), dot (dig ds 0) t = 0
  | [], t => by cases t <;> rfl
  | _ :: r, [] => rfl
  | _ :: r, s :: t => by
    show 0 / prodN r * s + dot (dig r (0 % prodN r)) t = 0
    rw [Nat.zero_div, Nat.zero_mod, Nat.zero_mul, dot_zero r t]
theorem mid_get {xs zs : List Int} {y : Int} : (xs ++ y :: zs)[xs.length]? = some y := by
  rw [List.getElem?_append_right (Nat.le_refl _), Nat.sub_self]
  rfl
theorem mid_idx {xs zs : List Int} {y : Int} : idx (xs ++ y :: zs) (Int.ofNat xs.length) = some y := by
  unfold idx
  rw [if_pos (show (0 : Int) ≤ Int.ofNat xs.length from Int.natCast_nonneg _), show (Int.ofNat xs.length).toNat = xs.length from rfl, mid_get]
theorem mid_set {xs zs : List Int} {y v : Int} : setN (xs ++ y :: zs) xs.length v = some (xs ++ v :: zs) := by
  unfold setN
  rw [show Nat.blt xs.length (xs ++ y :: zs).length = true from Nat.ble_eq_true_of_le (by rw [List.length_append, List.length_cons]; omega), cond_true, List.set_append_right _ _ (Nat.le_refl _), Nat.sub_self]
  rfl
section
variable {off : Int} {l out : List Int} {m : Nat} {R : Type} {k : AEx → LSt → Option R}
/-- one digit goes on: it stays below its bound, or falls to 0 -/
theorem od_one {Ap dp sp : List Int} {Ar dr sr : List Int} {c d s base n : Nat} (h1 : dp.length = Ap.length) (h2 : sp.length = Ap.length) (hc : c < d) (hd : d ≤ 65536) (hs : s ≤ 65536) (hb : base + 4295032832 ≤ 4611686018427387904) (hA : Ap.length ≤ 65536) :
    lp g163 cf_plb (cL (cL (cL (cR (cR (cL (cL (cL (cR (cR C_plb)))))))))) (n + 1) (stVi off (dp ++ (d : Int) :: dr) (sp ++ (s : Int) :: sr) l (Ap ++ (c : Int) :: Ar) ((base + c * s : Nat) : Int) out (Int.ofNat Ap.length)) (KIv m k) =
      if c + 1 < d then lp g163 cf_plb (cL (cL (cR (cR C_plb)))) m (stVb1 off (dp ++ (d : Int) :: dr) (sp ++ (s : Int) :: sr) l (Ap ++ ((c + 1 : Nat) : Int) :: Ar) ((base + (c + 1) * s : Nat) : Int) out) k
      else lp g163 cf_plb (cL (cL (cL (cR (cR (cL (cL (cL (cR (cR C_plb)))))))))) n (stVi off (dp ++ (d : Int) :: dr) (sp ++ (s : Int) :: sr) l (Ap ++ (0 : Int) :: Ar) (base : Int) out ((Ap.length : Int) - 1)) (KIv m k) := by
  have c1 : c * s ≤ 65536 * 65536 := Nat.mul_le_mul (by omega) hs
  have c2 : (c + 1) * s = c * s + s := by rw [Nat.add_mul, Nat.one_mul]
  have w1 : IntKind.i64.wrap ((c : Int) + 1) = ((c + 1 : Nat) : Int) := by rw [wrap64 (by omega) (by omega)]; omega
  have w2 : IntKind.i64.wrap (((base + c * s : Nat) : Int) + s) = ((base + (c + 1) * s : Nat) : Int) := by rw [c2, wrap64 (by omega) (by omega)]; omega
  have gA : idx (Ap ++ (c : Int) :: Ar) (Int.ofNat Ap.length) = some (c : Int) := mid_idx
  have gA' : (Ap ++ (c : Int) :: Ar)[(Int.ofNat Ap.length).toNat]? = some (c : Int) := mid_get
  have gS : setN (Ap ++ (c : Int) :: Ar) (Int.ofNat Ap.length).toNat ((c + 1 : Nat) : Int) = some (Ap ++ ((c + 1 : Nat) : Int) :: Ar) := mid_set
  have gs : idx (sp ++ (s : Int) :: sr) (Int.ofNat Ap.length) = some (s : Int) := by rw [← h2]; exact mid_idx
  have gs' : (sp ++ (s : Int) :: sr)[(Int.ofNat Ap.length).toNat]? = some (s : Int) := by rw [← h2]; exact mid_get
  have gB : idx (Ap ++ ((c + 1 : Nat) : Int) :: Ar) (Int.ofNat Ap.length) = some ((c + 1 : Nat) : Int) := mid_idx
  have gB' : (Ap ++ ((c + 1 : Nat) : Int) :: Ar)[(Int.ofNat Ap.length).toNat]? = some ((c + 1 : Nat) : Int) := mid_get
  have gd : idx (dp ++ (d : Int) :: dr) (Int.ofNat Ap.length) = some (d : Int) := by rw [← h1]; exact mid_idx
  have gd' : (dp ++ (d : Int) :: dr)[(Int.ofNat Ap.length).toNat]? = some (d : Int) := by rw [← h1]; exact mid_get
  have gZ : setN (Ap ++ ((c + 1 : Nat) : Int) :: Ar) (Int.ofNat Ap.length).toNat (0 : Int) = some (Ap ++ (0 : Int) :: Ar) := mid_set
  rw [bI_st, decide_eq_true (show Int.ofNat Ap.length ≥ 0 from Int.natCast_nonneg _), cond_true, gA, Option.bind_some, gA', Option.bind_some, Option.bind_some, w1, gS, Option.bind_some, gs, Option.bind_some, gs', Option.bind_some, gB, Option.bind_some, gB', Option.bind_some, gd, Option.bind_some, gd', Option.bind_some, w2]
  by_cases h : c + 1 < d
  · rw [if_pos h, decide_eq_true (show ((c + 1 : Nat) : Int) < (d : Int) by omega), cond_true]
    exact KI_brk off _ _ l (Ap ++ (c : Int) :: Ar) _ _ _ out Ap.length _ _ _ _ _ m k
  · have w3 : IntKind.i64.wrap (((c + 1 : Nat) : Int) * s) = (((c + 1) * s : Nat) : Int) := by rw [← Int.natCast_mul]; exact wrap64 (by omega) (by omega)
    have w4 : IntKind.i64.wrap (((base + (c + 1) * s : Nat) : Int) - (((c + 1) * s : Nat) : Int)) = (base : Int) := by rw [wrap64 (by omega) (by omega)]; omega
    have w5 : IntKind.i64.wrap (Int.ofNat Ap.length - 1) = (Ap.length : Int) - 1 := wrap64 (by simp only [Int.ofNat_eq_natCast]; omega) (by simp only [Int.ofNat_eq_natCast]; omega)
    rw [if_neg h, decide_eq_false (show ¬ (((c + 1 : Nat) : Int) < (d : Int)) by omega), cond_false]
    simp only [Option.bind_some, gZ, w3, w4, w5]
    rfl
theorem prodN_pos {ds : List Nat} (h : ∀ d ∈ ds, 1 ≤ d) : 1 ≤ prodN ds := by
  induction ds with
  | nil => exact Nat.le_refl _
  | cons d r ih =>
    have h1 := h d (by simp)
    have h2 := ih fun x hx => h x (by simp [hx])
    exact Nat.mul_pos h1 h2
theorem od_in : ∀ (suf ssuf : List Nat) (Ap dp sp : List Int) (q base n : Nat), dp.length = Ap.length → sp.length = Ap.length → ssuf.length = suf.length → (∀ d ∈ suf, d ≤ 65536) → (∀ s ∈ ssuf, s ≤ 65536) → q < prodN suf → base + suf.length * 4295032832 ≤ 4611686018427387904 → Ap.length + suf.length ≤ 65536 → suf.length < n →
    lp g163 cf_plb (cL (cL (cL (cR (cR (cL (cL (cL (cR (cR C_plb)))))))))) n (stVi off (dp ++ ints suf) (sp ++ ints ssuf) l (Ap ++ ints (dig suf q)) ((base + dot (dig suf q) ssuf : Nat) : Int) out (((Ap.length + suf.length : Nat) : Int) - 1)) (KIv m k) =
      if q + 1 < prodN suf then lp g163 cf_plb (cL (cL (cR (cR C_plb)))) m (stVb1 off (dp ++ ints suf) (sp ++ ints ssuf) l (Ap ++ ints (dig suf (q + 1))) ((base + dot (dig suf (q + 1)) ssuf : Nat) : Int) out) k
      else lp g163 cf_plb (cL (cL (cL (cR (cR (cL (cL (cL (cR (cR C_plb)))))))))) (n - suf.length) (stVi off (dp ++ ints suf) (sp ++ ints ssuf) l (Ap ++ ints (dig suf 0)) (base : Int) out ((Ap.length : Int) - 1)) (KIv m k) := by
  intro suf
  induction suf with
  | nil =>
    intro ssuf Ap dp sp q base n _ _ _ _ _ hq _ _ _
    have hq : q < 1 := hq
    have : q = 0 := by omega
    subst this
    rw [if_neg (show ¬ (0 + 1 < prodN []) from by show ¬ (0 + 1 < 1); omega)]
    rfl
  | cons d r ih =>
    intro ssuf Ap dp sp q base n h1 h2 h3 h4 h5 hq hb hA hn
    match ssuf, h3, h5 with
    | s :: t, h3, h5 =>
      have hd := h4 d (by simp)
      have hs := h5 s (by simp)
      have hq : q < d * prodN r := hq
      have hN : 0 < prodN r := by
        rcases Nat.eq_zero_or_pos (prodN r) with h0 | h0
        · rw [h0, Nat.mul_zero] at hq; omega
        · exact h0
      have hc : q / prodN r < d := Nat.div_lt_of_lt_mul (by rw [Nat.mul_comm]; exact hq)
      have hq' : q % prodN r < prodN r := Nat.mod_lt _ hN
      have hqe : q = q / prodN r * prodN r + q % prodN r := by rw [Nat.mul_comm]; exact (Nat.div_add_mod _ _).symm
      generalize hcd : q / prodN r = c at *
      generalize hqd : q % prodN r = q' at *
      have hcs : c * s ≤ 65536 * 65536 := Nat.mul_le_mul (by omega) hs
      simp only [List.length_cons] at hb hA hn h3
      have key := ih t (Ap ++ [(c : Int)]) (dp ++ [(d : Int)]) (sp ++ [(s : Int)]) q' (base + c * s) n (by simp [h1]) (by simp [h2]) (by omega) (fun x hx => h4 x (by simp [hx])) (fun x hx => h5 x (by simp [hx])) hq' (by omega) (by simp; omega) (by omega)
      simp only [List.append_assoc, List.singleton_append, List.length_append, List.length_cons, List.length_nil] at key
      have eI : (((Ap.length + (d :: r).length : Nat) : Int) - 1) = (((Ap.length + (0 + 1) + r.length : Nat) : Int) - 1) := by simp only [List.length_cons]; omega
      have eP : ∀ z, base + dot (c :: dig r z) (s :: t) = base + c * s + dot (dig r z) t := fun z => by show base + (c * s + _) = _; omega
      have eD : dig (d :: r) q = c :: dig r q' := by show q / prodN r :: dig r (q % prodN r) = _; rw [hcd, hqd]
      rw [eI, eD, eP, ints_cons, ints_cons, ints_cons]
      refine key.trans ?_
      show _ = if q + 1 < d * prodN r then _ else _
      by_cases hlt : q' + 1 < prodN r
      · have hrow : (c + 1) * prodN r ≤ d * prodN r := Nat.mul_le_mul_right _ hc
        rw [Nat.add_mul, Nat.one_mul] at hrow
        have hp := (place_iff (i := c) (p := q + 1) (j := q' + 1) hlt).mp (by omega)
        have eD2 : dig (d :: r) (q + 1) = c :: dig r (q' + 1) := by show (q + 1) / prodN r :: dig r ((q + 1) % prodN r) = _; rw [hp.1, hp.2]
        rw [if_pos hlt, if_pos (by omega), eD2, eP, ints_cons]
      · have hrow : (c + 1) * prodN r = c * prodN r + prodN r := by rw [Nat.add_mul, Nat.one_mul]
        rw [if_neg hlt]
        obtain ⟨n', hn'⟩ : ∃ n', n - r.length = n' + 1 := ⟨n - r.length - 1, by omega⟩
        have e1 : (((Ap.length + (0 + 1) : Nat) : Int) - 1) = Int.ofNat Ap.length := by simp only [Int.ofNat_eq_natCast]; omega
        rw [hn', e1, od_one h1 h2 hc hd hs (by omega) (by omega)]
        by_cases hlt2 : c + 1 < d
        · have hrow2 : (c + 1 + 1) * prodN r ≤ d * prodN r := Nat.mul_le_mul_right _ hlt2
          rw [Nat.add_mul _ 1, Nat.one_mul] at hrow2
          have hp := (place_iff (i := c + 1) (p := q + 1) (j := 0) hN).mp (by omega)
          have eD2 : dig (d :: r) (q + 1) = (c + 1) :: dig r 0 := by show (q + 1) / prodN r :: dig r ((q + 1) % prodN r) = _; rw [hp.1, hp.2]
          have e0 : dot (dig r 0) t = 0 := dot_zero r t
          rw [if_pos hlt2, if_pos (by omega), eD2, ints_cons]
          show _ = lp g163 cf_plb (cL (cL (cR (cR C_plb)))) m (stVb1 off _ _ l _ ((base + ((c + 1) * s + dot (dig r 0) t) : Nat) : Int) out) k
          rw [e0]
          rfl
        · have hce : c + 1 = d := by omega
          have eD0 : dig (d :: r) 0 = 0 :: dig r 0 := by show 0 / prodN r :: dig r (0 % prodN r) = _; rw [Nat.zero_div, Nat.zero_mod]
          rw [if_neg hlt2, if_neg (by rw [← hce, hrow]; omega), eD0, ints_cons]
          have en : n - (d :: r).length = n' := by simp only [List.length_cons]; omega
          rw [en]
          rfl
end
/-- the numbers that a view shows -/
def vwL (off : Nat) (ds ss : List Nat) (l : List Int) : List Int := tab (prodN ds) (fun q => l.getD (off + dot (dig ds q) ss) 0)
noncomputable def stVm2 (off : Int) (ds ss l A : List Int) (p : Int) (out : List Int) : LSt := match out with
  | [] => stVb0 off ds ss l A p
  | o :: r => stVb1 off ds ss l A p (o :: r)
section
variable {off : Nat} {l : List Int} {ds ss : List Nat}
theorem od_end (out : List Int) (A : List Int) (p : Int) (n m : Nat) : lp g163 cf_plb (cL (cL (cL (cR (cR (cL (cL (cL (cR (cR C_plb)))))))))) (n + 1) (stVi off (ints ds) (ints ss) l A p out (-1)) (KIv m WKb) = some (.ret [], hpYbW off (ints ds) (ints ss) l out) := by
  rw [bI_st, decide_eq_false (show ¬ ((-1 : Int) ≥ 0) by decide), cond_false]
  exact (KI_fin off (ints ds) (ints ss) l A p out m WKb).trans (WKb_ret off (ints ds) (ints ss) l A p out)
theorem od_step (h3 : ss.length = ds.length) (h1 : ∀ d ∈ ds, d ≤ 65536) (h5 : ∀ s ∈ ss, s ≤ 65536) (hr : ds.length ≤ 6) (ho : off ≤ 65536) (hN : prodN ds ≤ 65536) {q : Nat} (hq : q < prodN ds) (hp : off + dot (dig ds q) ss < l.length) (n : Nat) :
    lp g163 cf_plb (cL (cL (cR (cR C_plb)))) (n + 1) (stVm2 off (ints ds) (ints ss) l (ints (dig ds q)) ((off + dot (dig ds q) ss : Nat) : Int) (tab q (fun q => l.getD (off + dot (dig ds q) ss) 0))) WKb =
      if q + 1 < prodN ds then lp g163 cf_plb (cL (cL (cR (cR C_plb)))) n (stVm2 off (ints ds) (ints ss) l (ints (dig ds (q + 1))) ((off + dot (dig ds (q + 1)) ss : Nat) : Int) (tab (q + 1) (fun q => l.getD (off + dot (dig ds q) ss) 0))) WKb
      else some (.ret [], hpYbW off (ints ds) (ints ss) l (tab (q + 1) (fun q => l.getD (off + dot (dig ds q) ss) 0))) := by
  have hf : fu = 18446744073709551616 := rfl
  obtain ⟨g1, _⟩ := getV hp
  have hge : decide (((off + dot (dig ds q) ss : Nat) : Int) ≥ Int.ofNat l.length) = false := decide_eq_false (by simp only [Int.ofNat_eq_natCast]; omega)
  have hw : IntKind.i64.wrap (Int.ofNat (ints (dig ds q)).length - 1) = ((0 + ds.length : Nat) : Int) - 1 := by
    rw [ints_len, dig_len, wrap64 (by simp only [Int.ofNat_eq_natCast]; omega) (by simp only [Int.ofNat_eq_natCast]; omega), Nat.zero_add]
    rfl
  have hlen : (tab q (fun q => l.getD (off + dot (dig ds q) ss) 0)).length = q := tab_length _ _
  have key : ∀ out : List Int, out ≠ [] → lp g163 cf_plb (cL (cL (cL (cR (cR (cL (cL (cL (cR (cR C_plb)))))))))) fu (stVi off (ints ds) (ints ss) l (ints (dig ds q)) ((off + dot (dig ds q) ss : Nat) : Int) out (((0 + ds.length : Nat) : Int) - 1)) (KIv n WKb) =
      if q + 1 < prodN ds then lp g163 cf_plb (cL (cL (cR (cR C_plb)))) n (stVm2 off (ints ds) (ints ss) l (ints (dig ds (q + 1))) ((off + dot (dig ds (q + 1)) ss : Nat) : Int) out) WKb
      else some (.ret [], hpYbW off (ints ds) (ints ss) l out) := by
    intro out hne
    refine (od_in (off := off) (l := l) (out := out) (m := n) (k := WKb) ds ss [] [] [] q off fu rfl rfl h3 h1 h5 hq (by omega) (by simp only [List.length_nil]; omega) (by omega)).trans ?_
    by_cases h : q + 1 < prodN ds
    · rw [if_pos h, if_pos h]
      cases out with
      | nil => exact absurd rfl hne
      | cons o r => rfl
    · rw [if_neg h, if_neg h]
      obtain ⟨n', hn'⟩ : ∃ n', fu - ds.length = n' + 1 := ⟨fu - ds.length - 1, by omega⟩
      rw [hn']
      exact od_end out _ _ n' n
  rw [tab_succ]
  cases htab : tab q (fun q => l.getD (off + dot (dig ds q) ss) 0) with
  | nil =>
    refine Eq.trans ?_ (key ([] ++ [l.getD (off + dot (dig ds q) ss) 0]) (by simp))
    show lp g163 cf_plb (cL (cL (cR (cR C_plb)))) (n + 1) (stVb0 off (ints ds) (ints ss) l (ints (dig ds q)) ((off + dot (dig ds q) ss : Nat) : Int)) WKb = _
    rw [bG_st0, hge, cond_false, g1, Option.bind_some, hw]
    kernel_rfl
  | cons o r =>
    have hl2 : (o :: r).length ≤ 65536 := by rw [← htab, hlen]; omega
    refine Eq.trans ?_ (key ((o :: r) ++ [l.getD (off + dot (dig ds q) ss) 0]) (by simp))
    show lp g163 cf_plb (cL (cL (cR (cR C_plb)))) (n + 1) (stVb1 off (ints ds) (ints ss) l (ints (dig ds q)) ((off + dot (dig ds q) ss : Nat) : Int) (o :: r)) WKb = _
    rw [bG_st1, hge, cond_false, g1, Option.bind_some, app_one hl2, Option.bind_some, hw]
    kernel_rfl
theorem od_out (h3 : ss.length = ds.length) (h1 : ∀ d ∈ ds, d ≤ 65536) (h5 : ∀ s ∈ ss, s ≤ 65536) (hr : ds.length ≤ 6) (ho : off ≤ 65536) (hN : prodN ds ≤ 65536) (hp : ∀ q, q < prodN ds → off + dot (dig ds q) ss < l.length) : ∀ (r q n : Nat), q + r + 1 = prodN ds → r < n →
    lp g163 cf_plb (cL (cL (cR (cR C_plb)))) n (stVm2 off (ints ds) (ints ss) l (ints (dig ds q)) ((off + dot (dig ds q) ss : Nat) : Int) (tab q (fun q => l.getD (off + dot (dig ds q) ss) 0))) WKb = some (.ret [], hpYbW off (ints ds) (ints ss) l (vwL off ds ss l)) := by
  intro r
  induction r with
  | zero =>
    intro q n hq hn
    obtain ⟨n, rfl⟩ : ∃ m', n = m' + 1 := ⟨n - 1, by omega⟩
    rw [od_step h3 h1 h5 hr ho hN (show q < prodN ds by omega) (hp q (by omega)) n, if_neg (by omega)]
    unfold vwL
    rw [show q + 1 = prodN ds by omega]
  | succ r ih =>
    intro q n hq hn
    obtain ⟨n, rfl⟩ : ∃ m', n = m' + 1 := ⟨n - 1, by omega⟩
    rw [od_step h3 h1 h5 hr ho hN (show q < prodN ds by omega) (hp q (by omega)) n, if_pos (by omega)]
    exact ih (q + 1) n (by omega) (by omega)
theorem ints_rep (n : Nat) : List.replicate n (0 : Int) = ints (List.replicate n 0) := by simp [ints]
theorem dig_zero : ∀ ds : List Nat, dig ds 0 = List.replicate ds.length 0
  | [] => rfl
  | _ :: r => by
    show 0 / prodN r :: dig r (0 % prodN r) = _
    rw [Nat.zero_div, Nat.zero_mod, dig_zero r]
    rfl
theorem plbG_run (h3 : ss.length = ds.length) (h0 : ∀ d ∈ ds, 1 ≤ d) (h1 : ∀ d ∈ ds, d ≤ 65536) (h5 : ∀ s ∈ ss, s ≤ 65536) (hr : ds.length ≤ 6) (ho : off ≤ 65536) (hN : prodN ds ≤ 65536) (hp : ∀ q, q < prodN ds → off + dot (dig ds q) ss < l.length) :
    runC g163 Tryz.f132 6 [(2, [0, 1, 3, 4]), (4, [0, 1, 3, 4, 5])] [.ref 8, .op 0 [] 0] (hpYb off (ints ds) (ints ss) l .nils) ah = some (.ret [], hpYbW off (ints ds) (ints ss) l (vwL off ds ss l)) := by
  have hf : fu = 18446744073709551616 := rfl
  have hpos := prodN_pos h0
  have key := od_out (off := off) (l := l) h3 h1 h5 hr ho hN hp (prodN ds - 1) 0 fu (by omega) (by omega)
  rw [dot_zero, Nat.add_zero, dig_zero, ← ints_rep] at key
  refine (plb_eqG off (ints ds) (ints ss) l).trans ?_
  rw [if_pos ⟨Int.natCast_nonneg _, by rw [ints_len]; simp only [Int.ofNat_eq_natCast]; omega⟩, Option.bind_some, show (Int.ofNat (ints ds).length).toNat = ds.length from by rw [ints_len]; rfl]
  refine Eq.trans ?_ key
  kernel_rfl
end
end Go.Proofs.XGT
namespace Go.Proofs.XGT
open Go.Vm Go
set_option maxRecDepth 100000
set_option maxHeartbeats 4000000
def farB (s : Int) : Bool := bif decide (s < 0) then true else decide (s > 65536)
theorem far_eq (s : Int) : runC g4 Tryz.f106 4 [] [I s] [] ah = bif decide (s < 0) then some (AEnd.ret [B true], []) else some (AEnd.ret [B (decide (s > 65536))], []) := by kernel_rfl
def farF : List AV → LHp → Option (AEnd × LHp)
  | [.d (.int .i64) s], [] => some (.ret [B (farB s)], [])
  | _, _ => none
theorem far_run (s : Int) : runC g4 Tryz.f106 4 [] [I s] [] ah = some (.ret [B (farB s)], []) := by
  rw [far_eq]
  unfold farB
  cases decide (s < 0) <;> rfl
theorem farE_ok : FnE.OK e0.P e0.gam 106 (fnE farF) := by
  refine fnC_ok g4_good hmix Tryz.func106 Tryz.call106 (depth := 4) (live := []) (by decide +kernel) rfl fun args hs p h => ?_
  unfold farF at h
  split at h
  · cases h
    exact far_run _
  · cases h
noncomputable def C_ixf : Code := codeOf Tryz.f128
noncomputable def cf_ixf : Cfg := ⟨19, 5, 1, [(2, [0, 1, 7, 8])], true⟩
noncomputable def gIx : Env := g7.add 106 (fnE farF)
theorem gIx_good : gIx.Good := g7_good.add farE_ok
def hpSs (xs : List Int) : LHp := [(0, .arr 3 i64T 0 false xs)]
theorem ixf_eqH (hl : Hl) (xs : List Int) : runH gIx Tryz.f128 5 [(2, [0, 1, 7, 8])] [2] hl [.os 0 0, .fn (.func 106) [] []] (hpSs xs) ah = hl (cL (cL (cR (cL (cR C_ixf))))) _ { fr := mkFr 5 [(0, AV.os 0 0), (1, AV.fn (Fn.func 106) [] []), (7, I (Int.ofNat xs.length)), (8, I 0)], hp := [(0, AObj.arr 3 (i64T) 0 false xs)], nx := 2 } (blkK 0 (seqH gIx cf_ixf [2] hl (cR (cR C_ixf)) (endC Tryz.prog 1 Tryz.f128.results.toList ah))) := by kernel_rfl
theorem ixf_eq (xs : List Int) : runC gIx Tryz.f128 5 [(2, [0, 1, 7, 8])] [.os 0 0, .fn (.func 106) [] []] (hpSs xs) ah = (hlp gIx cf_ixf) (cL (cL (cR (cL (cR C_ixf))))) _ { fr := mkFr 5 [(0, AV.os 0 0), (1, AV.fn (Fn.func 106) [] []), (7, I (Int.ofNat xs.length)), (8, I 0)], hp := [(0, AObj.arr 3 (i64T) 0 false xs)], nx := 2 } (blkK 0 (seqH gIx cf_ixf [2] (hlp gIx cf_ixf) (cR (cR C_ixf)) (endC Tryz.prog 1 Tryz.f128.results.toList ah))) := runH_runC.trans (ixf_eqH (hlp gIx cf_ixf) xs)
def stIx (xs : List Int) (i : Int) : LSt := ⟨mkFr 5 [(0, .os 0 0), (1, .fn (.func 106) [] []), (7, I (Int.ofNat xs.length)), (8, I i)], hpSs xs, 2⟩
theorem ixf_stepH (hl : Hl) (xs : List Int) (i : Int) (n : Nat) {R : Type} (k : AEx → LSt → Option R) : lpH gIx cf_ixf [2] hl (cL (cL (cR (cL (cR C_ixf))))) (n + 1) (stIx xs i) k = bif decide (i < Int.ofNat xs.length) then (idx xs i).bind fun v1 => (xs[i.toNat]?).bind fun v2 => bif farB v2 then k AEx.ret { fr := mkFr 5 [(0, AV.os 0 0), (1, AV.fn (Fn.func 106) [] []), (4, I i), (5, I i), (7, I (Int.ofNat xs.length)), (8, I i), (9, B true), (10, I i), (11, AV.fn (Fn.func 106) [] []), (12, AV.os 0 0), (13, I i), (14, AV.oe 0 0 i.toNat), (15, I v2), (16, B true), (17, I i)], hp := [(0, AObj.arr 3 (i64T) 0 false xs)], nx := 2 } else lpH gIx cf_ixf [2] hl (cL (cL (cR (cL (cR C_ixf))))) n { fr := mkFr 5 [(0, AV.os 0 0), (1, AV.fn (Fn.func 106) [] []), (7, I (Int.ofNat xs.length)), (8, I (IntKind.i64.wrap (i + 1)))], hp := [(0, AObj.arr 3 (i64T) 0 false xs)], nx := 2 } k else k (AEx.exit 0) { fr := mkFr 5 [(0, AV.os 0 0), (1, AV.fn (Fn.func 106) [] []), (7, I (Int.ofNat xs.length)), (8, I i), (9, B false)], hp := [(0, AObj.arr 3 (i64T) 0 false xs)], nx := 2 } := by kernel_rfl
theorem ixf_step (xs : List Int) (i : Int) (n : Nat) {R : Type} (k : AEx → LSt → Option R) : lp gIx cf_ixf (cL (cL (cR (cL (cR C_ixf))))) (n + 1) (stIx xs i) k = bif decide (i < Int.ofNat xs.length) then (idx xs i).bind fun v1 => (xs[i.toNat]?).bind fun v2 => bif farB v2 then k AEx.ret { fr := mkFr 5 [(0, AV.os 0 0), (1, AV.fn (Fn.func 106) [] []), (4, I i), (5, I i), (7, I (Int.ofNat xs.length)), (8, I i), (9, B true), (10, I i), (11, AV.fn (Fn.func 106) [] []), (12, AV.os 0 0), (13, I i), (14, AV.oe 0 0 i.toNat), (15, I v2), (16, B true), (17, I i)], hp := [(0, AObj.arr 3 (i64T) 0 false xs)], nx := 2 } else lp gIx cf_ixf (cL (cL (cR (cL (cR C_ixf))))) n { fr := mkFr 5 [(0, AV.os 0 0), (1, AV.fn (Fn.func 106) [] []), (7, I (Int.ofNat xs.length)), (8, I (IntKind.i64.wrap (i + 1)))], hp := [(0, AObj.arr 3 (i64T) 0 false xs)], nx := 2 } k else k (AEx.exit 0) { fr := mkFr 5 [(0, AV.os 0 0), (1, AV.fn (Fn.func 106) [] []), (7, I (Int.ofNat xs.length)), (8, I i), (9, B false)], hp := [(0, AObj.arr 3 (i64T) 0 false xs)], nx := 2 } := by
  have h := ixf_stepH (hlp gIx cf_ixf) xs i n k
  simp only [lpH_lp] at h
  exact h
noncomputable def IxK : AEx → LSt → Option (AEnd × LHp) := (blkK 0 (seqH gIx cf_ixf [2] (hlp gIx cf_ixf) (cR (cR C_ixf)) (endC Tryz.prog 1 Tryz.f128.results.toList ah)))
theorem ixK_exit (xs : List Int) (i : Int) : IxK (.exit 0) ⟨mkFr 5 [(0, AV.os 0 0), (1, AV.fn (Fn.func 106) [] []), (7, I (Int.ofNat xs.length)), (8, I i), (9, B false)], hpSs xs, 2⟩ = some (.ret [I (-1)], hpSs xs) := by kernel_rfl
theorem ixf_run (xs : List Int) (hl : xs.length ≤ maxLen) (h : ∀ x ∈ xs, farB x = false) : runC gIx Tryz.f128 5 [(2, [0, 1, 7, 8])] [.os 0 0, .fn (.func 106) [] []] (hpSs xs) ah = some (.ret [I (-1)], hpSs xs) := by
  refine Eq.trans (b := lp gIx cf_ixf (cL (cL (cR (cL (cR C_ixf))))) fu (stIx xs 0) IxK) ((ixf_eq xs).trans (by kernel_rfl)) ?_
  exact allP_lp (T := fun n s => lp gIx cf_ixf (cL (cL (cR (cL (cR C_ixf))))) n s IxK) (xs := xs) (st := stIx xs) (r := some (.ret [I (-1)], hpSs xs)) hl (fun i x hx hi hlt n => by
    rw [ixf_step, decide_eq_true (show (i : Int) < Int.ofNat xs.length from Int.ofNat_lt.2 hlt), hi, show xs[(i : Int).toNat]? = some x from hx]
    simp only [cond_true, Option.bind_some, h x (List.mem_of_getElem? hx), cond_false]
    rfl) (fun n => by
    rw [ixf_step, decide_eq_false (show ¬ (Int.ofNat xs.length < Int.ofNat xs.length) from Int.lt_irrefl _)]
    exact ixK_exit _ _)
def ixfT : List AV → LHp → Tq
  | [.os 0 0, .fn (.func 106) [] []], [(0, .arr 3 (.int .i64) 0 false xs)] => .br (decide (xs.length ≤ maxLen ∧ ∀ x ∈ xs, farB x = false)) (.leaf (.ret [I (-1)]) (hpSs xs)) .no
  | _, _ => .no
theorem ixfT_ok : FnE.OK e0.P e0.gam 128 (treeE ixfT) := by
  have h1 : FnE.OK e0.P e0.gam 128 (execFnC gIx Tryz.f128 5 [(2, [0, 1, 7, 8])]) := execFnC_ok gIx_good hmix Tryz.func128 Tryz.call128 (by decide +kernel) rfl
  refine ⟨fun _ _ _ => Tq.eq _ _, fun args hs ae hs' h => ?_⟩
  have h' : (ixfT args hs).run ah = some (ae, hs') := h
  clear h
  unfold ixfT at h'
  split at h'
  · obtain ⟨hb, h2⟩ := Tq.br_no h'
    obtain ⟨c1, c2⟩ := of_decide_eq_true hb
    cases h2
    exact h1.okC (ixf_run _ c1 c2)
  · cases h'
noncomputable def gCt : Env := g8.add 128 (treeE ixfT)
theorem gCt_good : gCt.Good := g8_good.add ixfT_ok
noncomputable def ctE : FnE := execFnC gCt Tryz.f97 4 []
theorem ctE_ok : FnE.OK e0.P e0.gam 97 ctE := execFnC_ok gCt_good hmix Tryz.func97 Tryz.call97 (by decide +kernel) rfl
noncomputable def gVf : Env := g180.add 97 ctE
theorem gVf_good : gVf.Good := g180_good.add ctE_ok
def hpDs (ds ss : List Int) : LHp := [(0, .arr 3 i64T 0 false ss), (1, .arr 3 i64T 0 false ds)]
theorem vfi_eq (off : Int) (ds ss : List Int) : runC gVf Tryz.f75 6 [] [vwB off 1 0] (hpDs ds ss) ah = bif decide (ds.length ≤ 9223372036854775807) then  bif countE ds == 0 then  bif Int.ofNat ss.length == Int.ofNat ds.length then  bif decide (off ≥ 0) then  bif decide (off < 65536) then  bif decide (ss.length ≤ 9223372036854775807 ∧ ∀ (x : (i64T).den), x ∈ ss → farB x = false) then some (AEnd.ret [B true], [(0, AObj.arr 3 (i64T) 0 false ss), (1, AObj.arr 3 (i64T) 0 false ds)]) else none else some (AEnd.ret [B false], [(0, AObj.arr 3 (i64T) 0 false ss), (1, AObj.arr 3 (i64T) 0 false ds)]) else some (AEnd.ret [B false], [(0, AObj.arr 3 (i64T) 0 false ss), (1, AObj.arr 3 (i64T) 0 false ds)]) else some (AEnd.ret [B false], [(0, AObj.arr 3 (i64T) 0 false ss), (1, AObj.arr 3 (i64T) 0 false ds)]) else some (AEnd.ret [B false], [(0, AObj.arr 3 (i64T) 0 false ss), (1, AObj.arr 3 (i64T) 0 false ds)]) else none := by kernel_rfl
end Go.Proofs.XGT
namespace Go.Proofs.XGT
open Go.Vm Go
set_option maxRecDepth 100000
set_option maxHeartbeats 1000000
theorem runC_kw {E : Env} (hE : E.Good) {fn : Func} {depth : Nat} {live : List (Nat × List Nat)} {args : List AV} {hs hs' : LHp} {ae : AEnd} (h : runC E fn depth live args hs ah = some (ae, hs')) {R : Type} (k : AEnd → LHp → Option R) : runC E fn depth live args hs k = k ae hs' := by
  rw [runC_eq hE] at h ⊢
  cases hx : execB E fn depth live args hs with
  | none => rw [hx] at h; cases h
  | some p => rw [hx] at h; cases h; rfl
theorem plbE_eqv (args : List AV) (hs : LHp) {R : Type} (k : AEnd → LHp → Option R) : y132.run args hs k = runC g163 Tryz.f132 6 [(2, [0, 1, 3, 4]), (4, [0, 1, 3, 4, 5])] args hs k := rfl
def rd2 (off s u w v : Int) (l : List Int) : List Int := tab (w.toNat * v.toNat) (f2V l off.toNat v.toNat s.toNat u.toNat)
end Go.Proofs.XGT
namespace Go.Proofs.XGT
open Go.Vm Go
set_option maxRecDepth 100000
set_option maxHeartbeats 4000000
def okFine (off : Int) (ds ss : List Int) : Bool := decide (countE ds = 0 ∧ ss.length = ds.length ∧ 0 ≤ off ∧ off < 65536 ∧ ∀ x ∈ ss, farB x = false)
theorem vfi_run {off : Int} {ds ss : List Int} (h : okFine off ds ss = true) : runC gVf Tryz.f75 6 [] [vwB off 1 0] (hpDs ds ss) ah = some (.ret [B true], hpDs ds ss) := by
  obtain ⟨c1, c2, c3, c4, c5⟩ := of_decide_eq_true h
  obtain ⟨_, hr, _⟩ := count_ok c1
  rw [vfi_eq, decide_eq_true (show ds.length ≤ 9223372036854775807 by omega), c1, c2, decide_eq_true (show off ≥ 0 from c3), decide_eq_true c4, decide_eq_true (show ds.length ≤ 9223372036854775807 ∧ ∀ (x : (i64T).den), x ∈ ss → farB x = false from ⟨by omega, c5⟩)]
  simp only [beq_self_eq_true, cond_true]
  rfl
def vfiT : List AV → LHp → Tq
  | [.pr (.d (.int .i64) off) (.pr (.os 1 0) (.pr (.os 0 0) (.d .unit ())))], [(0, .arr 3 (.int .i64) 0 false ss), (1, .arr 3 (.int .i64) 0 false ds)] => .br (okFine off ds ss) (.leaf (.ret [B true]) (hpDs ds ss)) .no
  | _, _ => .no
theorem vfiT_ok : FnE.OK e0.P e0.gam 75 (treeE vfiT) := by
  have h1 : FnE.OK e0.P e0.gam 75 (execFnC gVf Tryz.f75 6 []) := execFnC_ok gVf_good hmix Tryz.func75 Tryz.call75 (by decide +kernel) rfl
  refine ⟨fun _ _ _ => Tq.eq _ _, fun args hs ae hs' h => ?_⟩
  have h' : (vfiT args hs).run ah = some (ae, hs') := h
  clear h
  unfold vfiT at h'
  split at h'
  · obtain ⟨hb, h2⟩ := Tq.br_no h'
    cases h2
    exact h1.okC (vfi_run hb)
  · cases h'
noncomputable def gVr (F : FnE) : Env := (g184.add 132 F).add 75 (treeE vfiT)
theorem gVr_good : (gVr y132).Good := (g184_good.add y132_ok).add vfiT_ok
theorem rbr_eqH (hl : Hl) (F : FnE) (off : Int) (ds ss l : List Int) : runQ (gVr F) Tryz.f79 5 [(5, [0, 1, 2, 3, 4, 5, 6, 14, 15, 16, 17, 18, 19, 20, 21, 22, 23, 24])] hl [vwB off 1 0, .d (.slice i64T) l] (hpDs ds ss) ah = bif okFine off ds ss then hl (cL (cR (cL (cR (cR (cR C_reb)))))) _ { fr := mkFr 5 [(0, (I off).pr ((AV.os 1 0).pr ((AV.os 0 0).pr (AV.d Ty.unit PUnit.unit)))), (1, AV.d (i64T).slice l), (2, AV.op 2 [] 0), (3, AV.op 3 [] 0), (4, AV.op 4 [] 0), (5, AV.op 5 [] 0), (6, AV.op 8 [] 0), (8, (I off).pr ((AV.os 1 0).pr ((AV.os 0 0).pr (AV.d Ty.unit PUnit.unit)))), (9, B true), (10, B false), (11, (I off).pr ((AV.os 1 0).pr ((AV.os 0 0).pr (AV.d Ty.unit PUnit.unit)))), (12, AV.fn (Fn.func 132) [] [AV.op 9 [] 0])], hp := [(0, AObj.arr 3 (i64T) 0 false ss), (1, AObj.arr 3 (i64T) 0 false ds), (9, AObj.box ((I off).pr ((AV.os 1 0).pr ((AV.os 0 0).pr (AV.d Ty.unit PUnit.unit))))), (8, AObj.box AV.nils), (0, AObj.arr 3 (i64T) 0 false ss), (1, AObj.arr 3 (i64T) 0 false ds), (5, AObj.box (I 0)), (4, AObj.box AV.nils), (3, AObj.box (AV.d (i64T).slice l)), (2, AObj.box ((I off).pr ((AV.os 1 0).pr ((AV.os 0 0).pr (AV.d Ty.unit PUnit.unit))))), (0, AObj.arr 3 (i64T) 0 false ss), (1, AObj.arr 3 (i64T) 0 false ds)], nx := 12 } (blkK 0 (seqQ (gVr F) cf_reb hl (cR (cR (cR (cR C_reb)))) (endC Tryz.prog 2 Tryz.f79.results.toList ah))) else none := by kernel_rfl
theorem rbr_eq (F : FnE) (off : Int) (ds ss l : List Int) : runC (gVr F) Tryz.f79 5 [(5, [0, 1, 2, 3, 4, 5, 6, 14, 15, 16, 17, 18, 19, 20, 21, 22, 23, 24])] [vwB off 1 0, .d (.slice i64T) l] (hpDs ds ss) ah =
  bif okFine off ds ss then (rfp (gVr F) cf_reb) (cL (cR (cL (cR (cR (cR C_reb)))))) _ { fr := mkFr 5 [(0, (I off).pr ((AV.os 1 0).pr ((AV.os 0 0).pr (AV.d Ty.unit PUnit.unit)))), (1, AV.d (i64T).slice l), (2, AV.op 2 [] 0), (3, AV.op 3 [] 0), (4, AV.op 4 [] 0), (5, AV.op 5 [] 0), (6, AV.op 8 [] 0), (8, (I off).pr ((AV.os 1 0).pr ((AV.os 0 0).pr (AV.d Ty.unit PUnit.unit)))), (9, B true), (10, B false), (11, (I off).pr ((AV.os 1 0).pr ((AV.os 0 0).pr (AV.d Ty.unit PUnit.unit)))), (12, AV.fn (Fn.func 132) [] [AV.op 9 [] 0])], hp := [(0, AObj.arr 3 (i64T) 0 false ss), (1, AObj.arr 3 (i64T) 0 false ds), (9, AObj.box ((I off).pr ((AV.os 1 0).pr ((AV.os 0 0).pr (AV.d Ty.unit PUnit.unit))))), (8, AObj.box AV.nils), (0, AObj.arr 3 (i64T) 0 false ss), (1, AObj.arr 3 (i64T) 0 false ds), (5, AObj.box (I 0)), (4, AObj.box AV.nils), (3, AObj.box (AV.d (i64T).slice l)), (2, AObj.box ((I off).pr ((AV.os 1 0).pr ((AV.os 0 0).pr (AV.d Ty.unit PUnit.unit))))), (0, AObj.arr 3 (i64T) 0 false ss), (1, AObj.arr 3 (i64T) 0 false ds)], nx := 12 } (blkK 0 (seqQ (gVr F) cf_reb (rfp (gVr F) cf_reb) (cR (cR (cR (cR C_reb)))) (endC Tryz.prog 2 Tryz.f79.results.toList ah)))
  else none := runQ_runC.trans (rbr_eqH (rfp (gVr F) cf_reb) F off ds ss l)
theorem rbr_rf (F : FnE) (off : Int) (ds ss l : List Int) (k : AEx → LSt → Option (AEnd × LHp)) : exC (gVr F) cf_reb (cL (cR (cL (cR (cR (cR C_reb)))))) ⟨frVb off l, hpVb off ds ss l, 12⟩ k =
    F.run [.ref 8, .op 0 [] 0] (hpYb off ds ss l .nils) (callK [9, 8, 5, 4, 3, 2, 0, 1, 12] (hpVb2 off ds ss l) 13 (rfK (frVb off l) (hpVb2 off ds ss l) 12 k) (rfP (frVb off l) (hpVb2 off ds ss l) 12 k)) := by kernel_rfl
noncomputable def RKr (F : FnE) : AEx → LSt → Option (AEnd × LHp) := blkK 0 (seqQ (gVr F) cf_reb (rfp (gVr F) cf_reb) (cR (cR (cR (cR C_reb)))) (endC Tryz.prog 2 Tryz.f79.results.toList ah))
theorem rbr_fin (F : FnE) (off : Int) (ds ss l out : List Int) : callK [9, 8, 5, 4, 3, 2, 0, 1, 12] (hpVb2 off ds ss l) 13 (rfK (frVb off l) (hpVb2 off ds ss l) 12 (RKr F)) (rfP (frVb off l) (hpVb2 off ds ss l) 12 (RKr F)) (.ret []) (hpYbW off ds ss l out) = some (AEnd.ret [AV.os 2 0, I 0], [(0, AObj.arr 3 (i64T) 0 false ss), (1, AObj.arr 3 (i64T) 0 false ds), (2, AObj.arr 2 (i64T) 0 false out)]) := by kernel_rfl
end Go.Proofs.XGT
namespace Go.Proofs.XGT
open Go.Vm Go
set_option maxRecDepth 100000
set_option maxHeartbeats 1000000
theorem rbr_go (F : FnE) (off : Int) (ds ss l out : List Int) (h : ∀ (k : AEnd → LHp → Option (AEnd × LHp)), F.run [.ref 8, .op 0 [] 0] (hpYb off ds ss l .nils) k = k (.ret []) (hpYbW off ds ss l out)) :
    exC (gVr F) cf_reb (cL (cR (cL (cR (cR (cR C_reb)))))) ⟨frVb off l, hpVb off ds ss l, 12⟩ (RKr F) = some (.ret [.os 2 0, I 0], [(0, .arr 3 i64T 0 false ss), (1, .arr 3 i64T 0 false ds), (2, .arr 2 i64T 0 false out)]) := by
  rw [rbr_rf, h, rbr_fin]
theorem foldl_ints : ∀ (ds : List Nat) (a : Int), (ints ds).foldl (· * ·) a = a * (prodN ds : Nat)
  | [], a => by show a = a * ((1 : Nat) : Int); rw [Int.natCast_one, Int.mul_one]
  | d :: r, a => by
    show (ints r).foldl (· * ·) (a * (d : Int)) = a * ((d * prodN r : Nat) : Int)
    rw [foldl_ints r, Int.mul_assoc, Int.natCast_mul]
theorem prodI_ints (ds : List Nat) : prodI (ints ds) = (prodN ds : Nat) := by
  unfold prodI
  rw [foldl_ints, Int.one_mul]
theorem ints_nat : ∀ {xs : List Int}, (∀ x ∈ xs, 0 ≤ x) → ints (xs.map Int.toNat) = xs
  | [], _ => rfl
  | x :: r, h => by
    show ((x.toNat : Nat) : Int) :: ints (r.map Int.toNat) = x :: r
    rw [ints_nat fun y hy => h y (by simp [hy]), Int.toNat_of_nonneg (h x (by simp))]
theorem far_ok {s : Int} (h : farB s = false) : 0 ≤ s ∧ s ≤ 65536 := by
  unfold farB at h
  by_cases h1 : s < 0
  · rw [decide_eq_true h1] at h; cases h
  · rw [decide_eq_false h1] at h
    have := of_decide_eq_false h
    omega
/-- every number that the view shows is there -/
def inL (off : Int) (ds ss : List Int) (l : List Int) : Bool := decide (∀ q, q < prodN (ds.map Int.toNat) → off.toNat + dot (dig (ds.map Int.toNat) q) (ss.map Int.toNat) < l.length)
def okRG (off : Int) (ds ss l : List Int) : Bool := okFine off ds ss && inL off ds ss l
def rdG (off : Int) (ds ss l : List Int) : List Int := vwL off.toNat (ds.map Int.toNat) (ss.map Int.toNat) l
theorem le_prodN {ds : List Nat} (h : ∀ d ∈ ds, 1 ≤ d) : ∀ d ∈ ds, d ≤ prodN ds := by
  induction ds with
  | nil => intro d hd; cases hd
  | cons a r ih =>
    intro d hd
    have h1 := h a (by simp)
    have h2 : ∀ x ∈ r, 1 ≤ x := fun x hx => h x (by simp [hx])
    have h3 := prodN_pos h2
    rcases List.mem_cons.1 hd with rfl | hd
    · exact Nat.le_mul_of_pos_right _ h3
    · exact Nat.le_trans (ih h2 d hd) (Nat.le_mul_of_pos_left _ h1)
theorem rbr_run {off : Int} {ds ss l : List Int} (h : okRG off ds ss l = true) : runC (gVr y132) Tryz.f79 5 [(5, [0, 1, 2, 3, 4, 5, 6, 14, 15, 16, 17, 18, 19, 20, 21, 22, 23, 24])] [vwB off 1 0, .d (.slice i64T) l] (hpDs ds ss) ah = some (.ret [.os 2 0, I 0], [(0, .arr 3 i64T 0 false ss), (1, .arr 3 i64T 0 false ds), (2, .arr 2 i64T 0 false (rdG off ds ss l))]) := by
  unfold okRG at h
  simp only [Bool.and_eq_true] at h
  obtain ⟨hf, hi⟩ := h
  obtain ⟨c1, c2, c3, c4, c5⟩ := of_decide_eq_true hf
  have hi := of_decide_eq_true hi
  obtain ⟨p1, p2, p3, _⟩ := count_ok c1
  have ed : ints (ds.map Int.toNat) = ds := ints_nat fun x hx => by have := p1 x hx; omega
  have es : ints (ss.map Int.toNat) = ss := ints_nat fun x hx => (far_ok (c5 x hx)).1
  have eo : ((off.toNat : Nat) : Int) = off := Int.toNat_of_nonneg c3
  have d1 : ∀ d ∈ ds.map Int.toNat, 1 ≤ d := fun d hd => by
    obtain ⟨x, hx, rfl⟩ := List.mem_map.1 hd
    have := p1 x hx
    omega
  have hN : prodN (ds.map Int.toNat) ≤ 65536 := by
    have e := prodI_ints (ds.map Int.toNat)
    rw [ed] at e
    omega
  have s1 : ∀ s ∈ ss.map Int.toNat, s ≤ 65536 := fun s hs => by
    obtain ⟨x, hx, rfl⟩ := List.mem_map.1 hs
    have := far_ok (c5 x hx)
    omega
  have key := plbG_run (off := off.toNat) (l := l) (ds := ds.map Int.toNat) (ss := ss.map Int.toNat) (by rw [List.length_map, List.length_map]; exact c2) d1 (fun d hd => Nat.le_trans (le_prodN d1 d hd) hN) s1 (by rw [List.length_map]; exact p2) (by omega) hN hi
  rw [ed, es, eo] at key
  refine Eq.trans (b := exC (gVr y132) cf_reb (cL (cR (cL (cR (cR (cR C_reb)))))) ⟨frVb off l, hpVb off ds ss l, 12⟩ (RKr y132)) ((rbr_eq y132 off ds ss l).trans (by rw [hf, cond_true]; kernel_rfl)) ?_
  exact rbr_go _ _ _ _ _ _ fun k => (plbE_eqv _ _ k).trans (runC_kw g163_good key k)
def reaG : List AV → LHp → Tq
  | [.pr (.d (.int .i64) off) (.pr (.os 1 0) (.pr (.os 0 0) (.d .unit ()))), .d (.slice (.int .i64)) l], [(0, .arr 3 (.int .i64) 0 false ss), (1, .arr 3 (.int .i64) 0 false ds)] =>
    .br (okRG off ds ss l) (.leaf (.ret [.os 2 0, I 0]) [(0, .arr 3 i64T 0 false ss), (1, .arr 3 i64T 0 false ds), (2, .arr 2 i64T 0 false (rdG off ds ss l))]) .no
  | _, _ => .no
theorem reaG_ok : FnE.OK e0.P e0.gam 79 (treeE reaG) := by
  have h1 : FnE.OK e0.P e0.gam 79 (execFnC (gVr y132) Tryz.f79 5 [(5, [0, 1, 2, 3, 4, 5, 6, 14, 15, 16, 17, 18, 19, 20, 21, 22, 23, 24])]) := execFnC_ok gVr_good hmix Tryz.func79 Tryz.call79 (by decide +kernel) rfl
  refine ⟨fun _ _ _ => Tq.eq _ _, fun args hs ae hs' h => ?_⟩
  have h' : (reaG args hs).run ah = some (ae, hs') := h
  clear h
  unfold reaG at h'
  split at h'
  · obtain ⟨hb, h2⟩ := Tq.br_no h'
    cases h2
    exact h1.okC (rbr_run hb)
  · cases h'
end Go.Proofs.XGT
namespace Go.Proofs.XGT
open Go.Vm Go
set_option maxRecDepth 100000
set_option maxHeartbeats 1000000
/-- the strides of dims, row by row -/
def strN : List Nat → List Nat
  | [] => []
  | _ :: r => prodN r :: strN r
theorem strN_len : ∀ (ds : List Nat), (strN ds).length = ds.length
  | [] => rfl
  | _ :: r => by simp only [strN, List.length_cons, strN_len r]
theorem prodN_app : ∀ (a b : List Nat), prodN (a ++ b) = prodN a * prodN b
  | [], b => by show prodN b = 1 * prodN b; rw [Nat.one_mul]
  | x :: r, b => by show x * prodN (r ++ b) = x * prodN r * prodN b; rw [prodN_app r b, Nat.mul_assoc]
theorem prodN_last {a b : List Nat} (h : ∀ x ∈ a, 1 ≤ x) : prodN b ≤ prodN (a ++ b) := by
  rw [prodN_app]
  exact Nat.le_mul_of_pos_left _ (prodN_pos h)
def strI (d : List Int) : List Int := ints (strN (d.map Int.toNat))
theorem sst_lp {D : List Nat} (hD : ∀ x ∈ D, 1 ≤ x) (hP : prodN D ≤ 65536) (hl : D.length ≤ 6) : ∀ (r : Nat) (Dp Dr : List Nat) (n : Nat), Dp.length = r → D = Dp ++ Dr → r < n →
    lp g156 cf_sst (cL (cL (cR (cL (cR (cR (cR (cR C_sst)))))))) n (stSs (ints D) (List.replicate r (0 : Int) ++ ints (strN Dr)) (prodN Dr : Nat) (Dr.length : Nat)) KSs = some (.ret [.os 0 0, I 0], [(0, .arr 3 i64T 0 false (ints (strN D)))]) := by
  intro r
  induction r with
  | zero =>
    intro Dp Dr n h1 h2 hn
    obtain ⟨n, rfl⟩ : ∃ m', n = m' + 1 := ⟨n - 1, by omega⟩
    cases Dp with
    | cons _ _ => cases h1
    | nil =>
      simp only [List.nil_append] at h2
      subst h2
      rw [sst_st, decide_eq_false (show ¬ (((D.length : Nat) : Int) < Int.ofNat (ints D).length) by rw [ints_len]; exact Int.lt_irrefl _), cond_false]
      exact sst_ex _ _ _ _
  | succ r ih =>
    intro Dp Dr n h1 h2 hn
    obtain ⟨n, rfl⟩ : ∃ m', n = m' + 1 := ⟨n - 1, by omega⟩
    rcases List.eq_nil_or_concat Dp with h0 | ⟨Dq, d, h0⟩
    · subst h0; cases h1
    · subst h0
      have hq : Dq.length = r := by simp at h1; exact h1
      have hDl : D.length = r + 1 + Dr.length := by rw [h2]; simp [hq]; omega
      have e2 : D = Dq ++ d :: Dr := by rw [h2]; simp
      have w0 : IntKind.i64.wrap (Int.ofNat (ints D).length - 1) = (r : Int) + Dr.length := by
        rw [ints_len, wrap64 (by simp only [Int.ofNat_eq_natCast]; omega) (by simp only [Int.ofNat_eq_natCast]; omega)]
        simp only [Int.ofNat_eq_natCast]
        omega
      have w1 : IntKind.i64.wrap (IntKind.i64.wrap (Int.ofNat (ints D).length - 1) - (Dr.length : Int)) = Int.ofNat r := by
        rw [w0, wrap64 (by omega) (by omega)]
        simp only [Int.ofNat_eq_natCast]
        omega
      have hlt : ((Dr.length : Nat) : Int) < Int.ofNat (ints D).length := by rw [ints_len]; simp only [Int.ofNat_eq_natCast]; omega
      have er : List.replicate (r + 1) (0 : Int) ++ ints (strN Dr) = List.replicate r (0 : Int) ++ (0 : Int) :: ints (strN Dr) := by
        rw [List.replicate_succ', List.append_assoc]
        rfl
      have g1 : idx (List.replicate r (0 : Int) ++ (0 : Int) :: ints (strN Dr)) (Int.ofNat r) = some 0 := by
        have := mid_idx (xs := List.replicate r (0 : Int)) (zs := ints (strN Dr)) (y := 0)
        rw [List.length_replicate] at this
        exact this
      have g2 : setN (List.replicate r (0 : Int) ++ (0 : Int) :: ints (strN Dr)) (Int.ofNat r).toNat (prodN Dr : Nat) = some (List.replicate r (0 : Int) ++ ints (strN (d :: Dr))) := by
        have := mid_set (xs := List.replicate r (0 : Int)) (zs := ints (strN Dr)) (y := 0) (v := ((prodN Dr : Nat) : Int))
        rw [List.length_replicate] at this
        exact this
      have g3 : idx (ints D) (Int.ofNat r) = some (d : Int) := by
        have := mid_idx (xs := ints Dq) (zs := ints Dr) (y := (d : Int))
        rw [ints_len, hq] at this
        rw [e2, show ints (Dq ++ d :: Dr) = ints Dq ++ (d : Int) :: ints Dr by unfold ints; rw [List.map_append, List.map_cons]]
        exact this
      have hpd : prodN (d :: Dr) ≤ 65536 := by
        refine Nat.le_trans ?_ hP
        rw [e2]
        exact prodN_last fun x hx => hD x (by rw [e2]; simp [hx])
      have hpd' : d * prodN Dr ≤ 65536 := hpd
      have w2 : IntKind.i64.wrap (((prodN Dr : Nat) : Int) * (d : Int)) = ((prodN (d :: Dr) : Nat) : Int) := by
        rw [← Int.natCast_mul, show prodN (d :: Dr) = d * prodN Dr from rfl, Nat.mul_comm, wrap64 (by omega) (by omega)]
      have w3 : IntKind.i64.wrap ((Dr.length : Int) + 1) = (((d :: Dr).length : Nat) : Int) := by
        rw [wrap64 (by omega) (by omega), List.length_cons]
        omega
      rw [sst_st, decide_eq_true hlt, cond_true, w1, er, g1, Option.bind_some, g2, Option.bind_some, g3, Option.bind_some, w2, w3]
      exact ih Dq (d :: Dr) n hq e2 (by omega)
theorem nat_dims {d : List Int} (h : countE d = 0) : ∃ D : List Nat, d = ints D ∧ D = d.map Int.toNat ∧ (∀ x ∈ D, 1 ≤ x) ∧ prodN D ≤ 65536 ∧ D.length ≤ 6 := by
  obtain ⟨p1, p2, p3, _⟩ := count_ok h
  have ed : ints (d.map Int.toNat) = d := ints_nat fun x hx => by have := p1 x hx; omega
  refine ⟨d.map Int.toNat, ed.symm, rfl, fun x hx => ?_, ?_, by rw [List.length_map]; exact p2⟩
  · obtain ⟨y, hy, rfl⟩ := List.mem_map.1 hx
    have := p1 y hy
    omega
  · have e := prodI_ints (d.map Int.toNat)
    rw [ed] at e
    omega
theorem sst_run {d : List Int} (hl : d.length ≤ maxLen) : runC g156 Tryz.f85 6 [(7, [0, 6, 7, 22, 23])] [.d (.slice i64T) d] [] ah =
    bif countE d != 0 then some (.ret [.nils, I (countE d)], []) else some (.ret [.os 0 0, I 0], [(0, .arr 3 i64T 0 false (strI d))]) := by
  refine (sst_eq d).trans ?_
  rw [decide_eq_true (show d.length ≤ 9223372036854775807 from hl), cond_true]
  cases hc : countE d != 0 with
  | true => rfl
  | false =>
    have h0 : countE d = 0 := by simpa using hc
    obtain ⟨D, rfl, eD, h1, h2, h3⟩ := nat_dims h0
    have hf : fu = 18446744073709551616 := rfl
    rw [cond_false, cond_false, if_pos (show 0 ≤ Int.ofNat (ints D).length ∧ Int.ofNat (ints D).length ≤ 4294967296 by rw [ints_len]; simp only [Int.ofNat_eq_natCast]; omega), Option.bind_some]
    have key := sst_lp h1 h2 h3 D.length D [] fu rfl (by simp) (by omega)
    rw [show (strN ([] : List Nat)) = [] from rfl, show ints [] = [] from rfl, List.append_nil] at key
    unfold strI
    rw [← eD, show (Int.ofNat (ints D).length).toNat = D.length by rw [ints_len]; rfl]
    exact key
def sstT : List AV → LHp → Tq
  | [.d (.slice (.int .i64)) d], [] => .br (decide (d.length ≤ maxLen)) (.br (countE d != 0) (.leaf (.ret [.nils, I (countE d)]) []) (.leaf (.ret [.os 0 0, I 0]) [(0, .arr 3 i64T 0 false (strI d))])) .no
  | _, _ => .no
theorem sstT_ok : FnE.OK e0.P e0.gam 85 (treeE sstT) := by
  have h1 : FnE.OK e0.P e0.gam 85 (execFnC g156 Tryz.f85 6 [(7, [0, 6, 7, 22, 23])]) := y85_ok
  refine ⟨fun _ _ _ => Tq.eq _ _, fun args hs ae hs' h => ?_⟩
  have h' : (sstT args hs).run ah = some (ae, hs') := h
  clear h
  unfold sstT at h'
  split at h'
  · obtain ⟨hl, h2⟩ := Tq.br_no h'
    exact h1.okC ((sst_run (of_decide_eq_true hl)).trans h2)
  · cases h'
end Go.Proofs.XGT
namespace Go.Proofs.XGT
open Go.Vm Go
set_option maxRecDepth 100000
set_option maxHeartbeats 4000000
theorem cln_eq (a : Int) (d : List Int) : runC g92 Tryz.f96 4 [] [.d (.slice i64T) (a :: d)] [] ah = (app [] (a :: d)).bind fun v0 => some (AEnd.ret [AV.os 0 0], [(0, AObj.arr 3 (i64T) 0 false v0)]) := by kernel_rfl
theorem clo_eq (a : Int) (d : List Int) (z : Bool) : runC g92 Tryz.f96 4 [] [.os 0 0] [(0, .arr 3 i64T 0 z (a :: d))] ah = (app [] (a :: d)).bind fun v0 => some (AEnd.ret [AV.os 1 0], [(0, AObj.arr 3 (i64T) 0 z (a :: d)), (1, AObj.arr 3 (i64T) 0 false v0)]) := by kernel_rfl
def clnT : List AV → LHp → Tq
  | [.d (.slice (.int .i64)) xs], [] => .br (decide (xs ≠ [] ∧ xs.length ≤ 65536)) (.leaf (.ret [.os 0 0]) [(0, .arr 3 i64T 0 false xs)]) .no
  | [.os 0 0], [(0, .arr 3 (.int .i64) 0 z xs)] => .br (decide (xs ≠ [] ∧ xs.length ≤ 65536)) (.leaf (.ret [.os 1 0]) [(0, .arr 3 i64T 0 z xs), (1, .arr 3 i64T 0 false xs)]) .no
  | _, _ => .no
theorem app_ok {xs : List Int} (h : xs.length ≤ 65536) : app [] xs = some xs := app_eq (by simp only [List.length_nil, lim]; omega)
theorem clnT_ok : FnE.OK e0.P e0.gam 96 (treeE clnT) := by
  have h2 : FnE.OK e0.P e0.gam 96 (execFnC g92 Tryz.f96 4 []) := execFnC_ok g92_good hmix Tryz.func96 Tryz.call96 (by decide +kernel) rfl
  refine ⟨fun _ _ _ => Tq.eq _ _, fun args hs ae hs' h => ?_⟩
  have h' : (clnT args hs).run ah = some (ae, hs') := h
  clear h
  unfold clnT at h'
  split at h'
  · rename_i xs
    obtain ⟨hb, h3⟩ := Tq.br_no h'
    obtain ⟨c1, c2⟩ := of_decide_eq_true hb
    cases xs with
    | nil => exact absurd rfl c1
    | cons a d => exact h2.okC ((cln_eq a d).trans (Eq.trans (by rw [app_ok c2]; rfl) h3))
  · rename_i z xs
    obtain ⟨hb, h3⟩ := Tq.br_no h'
    obtain ⟨c1, c2⟩ := of_decide_eq_true hb
    cases xs with
    | nil => exact absurd rfl c1
    | cons a d => exact h2.okC ((clo_eq a d z).trans (Eq.trans (by rw [app_ok c2]; rfl) h3))
  · cases h'
noncomputable def clE : FnE := treeElse clnT y96
theorem clE_ok : FnE.OK e0.P e0.gam 96 clE := treeElse_ok clnT_ok y96_ok
/-- a start or an end as a place in a dimension -/
def bndI (k r : Int) : Int := bif decide (k < 0) then (if (if r < IntKind.i64.wrap (k + r) then r else IntKind.i64.wrap (k + r)) > 0 then if r < IntKind.i64.wrap (k + r) then r else IntKind.i64.wrap (k + r) else 0) else (if (if r < k then r else k) > 0 then if r < k then r else k else 0)
theorem bnd_eq (k r : Int) : runC g115 Tryz.f187 4 [] [I k, I r] [] ah = bif decide (k < 0) then some (AEnd.ret [I (if (if r < IntKind.i64.wrap (k + r) then r else IntKind.i64.wrap (k + r)) > 0 then if r < IntKind.i64.wrap (k + r) then r else IntKind.i64.wrap (k + r) else 0)], []) else some (AEnd.ret [I (if (if r < k then r else k) > 0 then if r < k then r else k else 0)], []) := by kernel_rfl
def bndT : List AV → LHp → Tq
  | [.d (.int .i64) k, .d (.int .i64) r], [] => .leaf (.ret [I (bndI k r)]) []
  | _, _ => .no
theorem bndT_ok : FnE.OK e0.P e0.gam 187 (treeE bndT) := by
  have h2 : FnE.OK e0.P e0.gam 187 (execFnC g115 Tryz.f187 4 []) := execFnC_ok g115_good hmix Tryz.func187 Tryz.call187 (by decide +kernel) rfl
  refine ⟨fun _ _ _ => Tq.eq _ _, fun args hs ae hs' h => ?_⟩
  have h' : (bndT args hs).run ah = some (ae, hs') := h
  clear h
  unfold bndT at h'
  split at h'
  · rename_i k r
    refine h2.okC ((bnd_eq k r).trans (Eq.trans ?_ h'))
    unfold bndI
    cases decide (k < 0) <;> rfl
  · cases h'
def axB (k r : Int) : Bool := decide (IntKind.i64.wrap (0 - r) ≤ k) && decide (k < r)
def axV (k r : Int) : Int := bif decide (k < 0) then IntKind.i64.wrap (k + r) else k
theorem axi_eq (k r : Int) : runC g95 Tryz.f121 5 [] [I k, I r] [] ah = bif decide (IntKind.i64.wrap (0 - r) ≤ k) then  bif !decide (k < r) then some (AEnd.panic 123 4, []) else  bif decide (k < 0) then some (AEnd.ret [I (IntKind.i64.wrap (k + r))], []) else some (AEnd.ret [I k], []) else some (AEnd.panic 123 4, []) := by kernel_rfl
def axiT : List AV → LHp → Tq
  | [.d (.int .i64) k, .d (.int .i64) r], [] => .br (axB k r) (.leaf (.ret [I (axV k r)]) []) (.leaf (.panic 123 4) [])
  | _, _ => .no
theorem axiT_ok : FnE.OK e0.P e0.gam 121 (treeE axiT) := by
  have h2 : FnE.OK e0.P e0.gam 121 (execFnC g95 Tryz.f121 5 []) := execFnC_ok g95_good hmix Tryz.func121 Tryz.call121 (by decide +kernel) rfl
  refine ⟨fun _ _ _ => Tq.eq _ _, fun args hs ae hs' h => ?_⟩
  have h' : (axiT args hs).run ah = some (ae, hs') := h
  clear h
  unfold axiT at h'
  split at h'
  · rename_i k r
    refine h2.okC ((axi_eq k r).trans (Eq.trans ?_ h'))
    unfold axB axV
    simp only [Tq.run]
    cases decide (IntKind.i64.wrap (0 - r) ≤ k) with
    | false => rfl
    | true =>
      cases decide (k < r) with
      | false => rfl
      | true => cases decide (k < 0) <;> rfl
  · cases h'
noncomputable def axE : FnE := execFnC (g101.add 121 (treeE axiT)) Tryz.f156 5 [(3, [1, 5, 9, 10, 11])]
theorem axE_ok : FnE.OK e0.P e0.gam 156 axE := execFnC_ok (g101_good.add axiT_ok) hmix Tryz.func156 Tryz.call156 (by decide +kernel) rfl
noncomputable def mkS : FnE := execFnC (((g116.add 96 clE).add 156 axE).add 187 (treeE bndT)) Tryz.f164 7 [(6, [1, 5, 6, 8, 41, 42, 43])]
theorem mkS_ok : FnE.OK e0.P e0.gam 164 mkS := execFnC_ok (((g116_good.add clE_ok).add axE_ok).add bndT_ok) hmix Tryz.func164 Tryz.call164 (by decide +kernel) rfl
noncomputable def mvS : FnE := execFnC (g149.add 164 mkS) Tryz.f127 7 []
theorem mvS_ok : FnE.OK e0.P e0.gam 127 mvS := execFnC_ok (g149_good.add mkS_ok) hmix Tryz.func127 Tryz.call127 (by decide +kernel) rfl
noncomputable def dmS : FnE := execFnC (g150.add 127 mvS) Tryz.f94 8 [(56, [3, 132, 133, 134])]
theorem dmS_ok : FnE.OK e0.P e0.gam 94 dmS := execFnC_ok (g150_good.add mvS_ok) hmix Tryz.func94 Tryz.call94 (by decide +kernel) rfl
noncomputable def ouS : FnE := execFnDC ((g152.add 94 dmS).add 96 clE) Tryz.f55 7 [(5, [1, 2, 4, 5, 26, 27, 28])] dd55
theorem ouS_ok : FnE.OK e0.P e0.gam 55 ouS := execFnDC_ok ((g152_good.add dmS_ok).add clE_ok) (execFnD_ok (D := dd55) ((g152_good.add dmS_ok).add clE_ok) hmix Tryz.func55 Tryz.call55 rfl rfl (by decide +kernel) rfl Tryz.func89 Tryz.call89 rfl rfl (by decide +kernel))
noncomputable def gSb : Env := g212.add 55 ouS
theorem gSb_good : gSb.Good := g212_good.add ouS_ok
end Go.Proofs.XGT
namespace Go.Proofs.XGT
open Go.Vm Go
set_option maxRecDepth 100000
set_option maxHeartbeats 4000000
noncomputable def C_mpd : Code := codeOf Tryz.f166
noncomputable def cf_mpd : Cfg := ⟨41, 6, 3, [(4, [1, 5, 6, 17, 18])], true⟩
noncomputable def gMp : Env := (g119.add 160 (treeE nupT)).add 96 clE
theorem gMp_good : gMp.Good := (g119_good.add nupT_ok).add clE_ok
def hpMp (t : Int) (d pm : List Int) : LHp := [(0, .arr 49 (Y3) 0 true [([], t, d, ())]), (1, .arr 37 (Y1) 0 true [lattr strPads pm]), (2, .arr 9 .str 0 false [[120]])]
theorem mpd_eqcH (hl : Hl) (t p : Int) (d pm : List Int) : runH gMp Tryz.f166 6 [(4, [1, 5, 6, 17, 18])] [4] hl [(nodeA strPA [] [121] (.os 2 0) (.os 1 0)).pr (.pr (.os 0 0) (.d .unit ())), .d (.slice i64T) d] (hpMp t d (p :: pm)) ah = bif decide ((p :: pm).length ≤ 2147483648) then  bif numC (IntKind.i64.wrap (Int.ofNat (2 * d.length))) 0 65536 (p :: pm) then  bif decide (d ≠ [] ∧ d.length ≤ 65536) then hl (cL (cL (cR (cL (cR (cR (cR C_mpd))))))) _ { fr := mkFr 6 [(1, AV.d (i64T).slice d), (5, AV.os 3 0), (6, AV.os 4 0), (17, I (Int.ofNat d.length)), (18, I 0)], hp := [(0, AObj.arr 49 (Ty.str.pair ((i64T).pair ((i64T).slice.pair Ty.unit))) 0 true [([], t, d, ())]), (1, AObj.arr 37 (Ty.str.pair ((i64T).pair ((i64T).pair ((i64T).pair (Ty.str.pair (Y0.pair ((i64T).slice.pair Ty.unit))))))) 0 true [([112, 97, 100, 115], 7, 0, 0, [], (0, [], [], ()), p :: pm, ())]), (2, AObj.arr 9 Ty.str 0 false [[120]]), (3, AObj.arr 3 (i64T) 0 false (p :: pm)), (4, AObj.arr 3 (i64T) 0 false d)], nx := 8 } (blkK 0 (seqH gMp cf_mpd [4] hl (cR (cR (cR (cR C_mpd)))) (endC Tryz.prog 3 Tryz.f166.results.toList ah))) else none else some (AEnd.panic 123 4, [(0, AObj.arr 49 (Ty.str.pair ((i64T).pair ((i64T).slice.pair Ty.unit))) 0 true [([], t, d, ())]), (1, AObj.arr 37 (Ty.str.pair ((i64T).pair ((i64T).pair ((i64T).pair (Ty.str.pair (Y0.pair ((i64T).slice.pair Ty.unit))))))) 0 true [([112, 97, 100, 115], 7, 0, 0, [], (0, [], [], ()), p :: pm, ())]), (2, AObj.arr 9 Ty.str 0 false [[120]])]) else none := by kernel_rfl
theorem mpd_eqc (t p : Int) (d pm : List Int) : runC gMp Tryz.f166 6 [(4, [1, 5, 6, 17, 18])] [(nodeA strPA [] [121] (.os 2 0) (.os 1 0)).pr (.pr (.os 0 0) (.d .unit ())), .d (.slice i64T) d] (hpMp t d (p :: pm)) ah = bif decide ((p :: pm).length ≤ 2147483648) then  bif numC (IntKind.i64.wrap (Int.ofNat (2 * d.length))) 0 65536 (p :: pm) then  bif decide (d ≠ [] ∧ d.length ≤ 65536) then (hlp gMp cf_mpd) (cL (cL (cR (cL (cR (cR (cR C_mpd))))))) _ { fr := mkFr 6 [(1, AV.d (i64T).slice d), (5, AV.os 3 0), (6, AV.os 4 0), (17, I (Int.ofNat d.length)), (18, I 0)], hp := [(0, AObj.arr 49 (Ty.str.pair ((i64T).pair ((i64T).slice.pair Ty.unit))) 0 true [([], t, d, ())]), (1, AObj.arr 37 (Ty.str.pair ((i64T).pair ((i64T).pair ((i64T).pair (Ty.str.pair (Y0.pair ((i64T).slice.pair Ty.unit))))))) 0 true [([112, 97, 100, 115], 7, 0, 0, [], (0, [], [], ()), p :: pm, ())]), (2, AObj.arr 9 Ty.str 0 false [[120]]), (3, AObj.arr 3 (i64T) 0 false (p :: pm)), (4, AObj.arr 3 (i64T) 0 false d)], nx := 8 } (blkK 0 (seqH gMp cf_mpd [4] (hlp gMp cf_mpd) (cR (cR (cR (cR C_mpd)))) (endC Tryz.prog 3 Tryz.f166.results.toList ah))) else none else some (AEnd.panic 123 4, [(0, AObj.arr 49 (Ty.str.pair ((i64T).pair ((i64T).slice.pair Ty.unit))) 0 true [([], t, d, ())]), (1, AObj.arr 37 (Ty.str.pair ((i64T).pair ((i64T).pair ((i64T).pair (Ty.str.pair (Y0.pair ((i64T).slice.pair Ty.unit))))))) 0 true [([112, 97, 100, 115], 7, 0, 0, [], (0, [], [], ()), p :: pm, ())]), (2, AObj.arr 9 Ty.str 0 false [[120]])]) else none := runH_runC.trans (mpd_eqcH (hlp gMp cf_mpd) t p d pm)
theorem mpd_eqnH (hl : Hl) (t : Int) (d : List Int) : runH gMp Tryz.f166 6 [(4, [1, 5, 6, 17, 18])] [4] hl [(nodeA strPA [] [121] (.os 2 0) (.os 1 0)).pr (.pr (.os 0 0) (.d .unit ())), .d (.slice i64T) d] (hpMp t d []) ah = bif IntKind.i64.wrap (Int.ofNat (2 * d.length)) != 0 then some (AEnd.panic 123 4, [(0, AObj.arr 49 (Ty.str.pair ((i64T).pair ((i64T).slice.pair Ty.unit))) 0 true [([], t, d, ())]), (1, AObj.arr 37 (Ty.str.pair ((i64T).pair ((i64T).pair ((i64T).pair (Ty.str.pair (Y0.pair ((i64T).slice.pair Ty.unit))))))) 0 true [([112, 97, 100, 115], 7, 0, 0, [], (0, [], [], ()), [], ())]), (2, AObj.arr 9 Ty.str 0 false [[120]])]) else none := by kernel_rfl
theorem mpd_eqn (t : Int) (d : List Int) : runC gMp Tryz.f166 6 [(4, [1, 5, 6, 17, 18])] [(nodeA strPA [] [121] (.os 2 0) (.os 1 0)).pr (.pr (.os 0 0) (.d .unit ())), .d (.slice i64T) d] (hpMp t d []) ah = bif IntKind.i64.wrap (Int.ofNat (2 * d.length)) != 0 then some (AEnd.panic 123 4, [(0, AObj.arr 49 (Ty.str.pair ((i64T).pair ((i64T).slice.pair Ty.unit))) 0 true [([], t, d, ())]), (1, AObj.arr 37 (Ty.str.pair ((i64T).pair ((i64T).pair ((i64T).pair (Ty.str.pair (Y0.pair ((i64T).slice.pair Ty.unit))))))) 0 true [([112, 97, 100, 115], 7, 0, 0, [], (0, [], [], ()), [], ())]), (2, AObj.arr 9 Ty.str 0 false [[120]])]) else none := runH_runC.trans (mpd_eqnH (hlp gMp cf_mpd) t d)
def stMp (t : Int) (d pm out : List Int) (i : Int) : LSt := { fr := mkFr 6 [(1, AV.d (i64T).slice d), (5, AV.os 3 0), (6, AV.os 4 0), (17, I (Int.ofNat d.length)), (18, I i)], hp := hpMp t d pm ++ [(3, AObj.arr 3 i64T 0 false pm), (4, AObj.arr 3 i64T 0 false out)], nx := 8 }
theorem mpd_stH (hl : Hl) (t : Int) (d pm out : List Int) (i : Int) (n : Nat) {R : Type} (k : AEx → LSt → Option R) : lpH gMp cf_mpd [4] hl (cL (cL (cR (cL (cR (cR (cR C_mpd))))))) (n + 1) (stMp t d pm out i) k = bif decide (i < Int.ofNat d.length) then (idx out i).bind fun v1 => (out[i.toNat]?).bind fun v2 => (idx pm i).bind fun v3 => (pm[i.toNat]?).bind fun v4 => (idx pm (IntKind.i64.wrap (Int.ofNat d.length + i))).bind fun v5 => (pm[(IntKind.i64.wrap (Int.ofNat d.length + i)).toNat]?).bind fun v6 => (idx out i).bind fun v7 => (setN out i.toNat (IntKind.i64.wrap (v2 + IntKind.i64.wrap (v4 + v6)))).bind fun v8 => lpH gMp cf_mpd [4] hl (cL (cL (cR (cL (cR (cR (cR C_mpd))))))) n { fr := mkFr 6 [(1, AV.d (i64T).slice d), (5, AV.os 3 0), (6, AV.os 4 0), (17, I (Int.ofNat d.length)), (18, I (IntKind.i64.wrap (i + 1)))], hp := [(0, AObj.arr 49 (Ty.str.pair ((i64T).pair ((i64T).slice.pair Ty.unit))) 0 true [([], t, d, ())]), (1, AObj.arr 37 (Ty.str.pair ((i64T).pair ((i64T).pair ((i64T).pair (Ty.str.pair (Y0.pair ((i64T).slice.pair Ty.unit))))))) 0 true [([112, 97, 100, 115], 7, 0, 0, [], (0, [], [], ()), pm, ())]), (2, AObj.arr 9 Ty.str 0 false [[120]]), (3, AObj.arr 3 (i64T) 0 false pm), (4, AObj.arr 3 (i64T) 0 false v8)], nx := 8 } k else k (AEx.exit 0) { fr := mkFr 6 [(1, AV.d (i64T).slice d), (5, AV.os 3 0), (6, AV.os 4 0), (17, I (Int.ofNat d.length)), (18, I i), (19, B false)], hp := [(0, AObj.arr 49 (Ty.str.pair ((i64T).pair ((i64T).slice.pair Ty.unit))) 0 true [([], t, d, ())]), (1, AObj.arr 37 (Ty.str.pair ((i64T).pair ((i64T).pair ((i64T).pair (Ty.str.pair (Y0.pair ((i64T).slice.pair Ty.unit))))))) 0 true [([112, 97, 100, 115], 7, 0, 0, [], (0, [], [], ()), pm, ())]), (2, AObj.arr 9 Ty.str 0 false [[120]]), (3, AObj.arr 3 (i64T) 0 false pm), (4, AObj.arr 3 (i64T) 0 false out)], nx := 8 } := by kernel_rfl
theorem mpd_st (t : Int) (d pm out : List Int) (i : Int) (n : Nat) {R : Type} (k : AEx → LSt → Option R) : lp gMp cf_mpd (cL (cL (cR (cL (cR (cR (cR C_mpd))))))) (n + 1) (stMp t d pm out i) k = bif decide (i < Int.ofNat d.length) then (idx out i).bind fun v1 => (out[i.toNat]?).bind fun v2 => (idx pm i).bind fun v3 => (pm[i.toNat]?).bind fun v4 => (idx pm (IntKind.i64.wrap (Int.ofNat d.length + i))).bind fun v5 => (pm[(IntKind.i64.wrap (Int.ofNat d.length + i)).toNat]?).bind fun v6 => (idx out i).bind fun v7 => (setN out i.toNat (IntKind.i64.wrap (v2 + IntKind.i64.wrap (v4 + v6)))).bind fun v8 => lp gMp cf_mpd (cL (cL (cR (cL (cR (cR (cR C_mpd))))))) n { fr := mkFr 6 [(1, AV.d (i64T).slice d), (5, AV.os 3 0), (6, AV.os 4 0), (17, I (Int.ofNat d.length)), (18, I (IntKind.i64.wrap (i + 1)))], hp := [(0, AObj.arr 49 (Ty.str.pair ((i64T).pair ((i64T).slice.pair Ty.unit))) 0 true [([], t, d, ())]), (1, AObj.arr 37 (Ty.str.pair ((i64T).pair ((i64T).pair ((i64T).pair (Ty.str.pair (Y0.pair ((i64T).slice.pair Ty.unit))))))) 0 true [([112, 97, 100, 115], 7, 0, 0, [], (0, [], [], ()), pm, ())]), (2, AObj.arr 9 Ty.str 0 false [[120]]), (3, AObj.arr 3 (i64T) 0 false pm), (4, AObj.arr 3 (i64T) 0 false v8)], nx := 8 } k else k (AEx.exit 0) { fr := mkFr 6 [(1, AV.d (i64T).slice d), (5, AV.os 3 0), (6, AV.os 4 0), (17, I (Int.ofNat d.length)), (18, I i), (19, B false)], hp := [(0, AObj.arr 49 (Ty.str.pair ((i64T).pair ((i64T).slice.pair Ty.unit))) 0 true [([], t, d, ())]), (1, AObj.arr 37 (Ty.str.pair ((i64T).pair ((i64T).pair ((i64T).pair (Ty.str.pair (Y0.pair ((i64T).slice.pair Ty.unit))))))) 0 true [([112, 97, 100, 115], 7, 0, 0, [], (0, [], [], ()), pm, ())]), (2, AObj.arr 9 Ty.str 0 false [[120]]), (3, AObj.arr 3 (i64T) 0 false pm), (4, AObj.arr 3 (i64T) 0 false out)], nx := 8 } := by
  have h := mpd_stH (hlp gMp cf_mpd) t d pm out i n k
  simp only [lpH_lp] at h
  exact h
noncomputable def KMp : AEx → LSt → Option (AEnd × LHp) := (blkK 0 (seqH gMp cf_mpd [4] (hlp gMp cf_mpd) (cR (cR (cR (cR C_mpd)))) (endC Tryz.prog 3 Tryz.f166.results.toList ah)))
theorem mpd_ex (t i l : Int) (d pm out : List Int) : KMp (.exit 0) { fr := mkFr 6 [(1, AV.d (i64T).slice d), (5, AV.os 3 0), (6, AV.os 4 0), (17, I l), (18, I i), (19, B false)], hp := (stMp t d pm out i).hp, nx := 8 } = some (AEnd.ret [AV.os 3 0], [(0, AObj.arr 49 (Ty.str.pair ((i64T).pair ((i64T).slice.pair Ty.unit))) 0 true [([], t, d, ())]), (1, AObj.arr 37 (Ty.str.pair ((i64T).pair ((i64T).pair ((i64T).pair (Ty.str.pair (Y0.pair ((i64T).slice.pair Ty.unit))))))) 0 true [([112, 97, 100, 115], 7, 0, 0, [], (0, [], [], ()), pm, ())]), (2, AObj.arr 9 Ty.str 0 false [[120]]), (3, AObj.arr 3 (i64T) 0 false out)]) := by kernel_rfl
end Go.Proofs.XGT
namespace Go.Proofs.XGT
open Go.Vm Go
set_option maxRecDepth 100000
set_option maxHeartbeats 4000000
noncomputable def rgE : FnE := execFnC (g214.add 79 (treeE reaG)) Tryz.f46 4 []
theorem rgE_ok : FnE.OK e0.P e0.gam 46 rgE := execFnC_ok (g214_good.add reaG_ok) hmix Tryz.func46 Tryz.call46 (by decide +kernel) rfl
end Go.Proofs.XGT
namespace Go.Proofs.XGT
open Go.Vm Go
set_option maxRecDepth 100000
set_option maxHeartbeats 4000000
theorem mxi_eq (k r : Int) : runC g216 Tryz.f81 4 [] [I k, I r] [] ah = bif decide (k < 0) then some (AEnd.ret [I (IntKind.i64.wrap (k + r))], []) else some (AEnd.ret [I k], []) := by kernel_rfl
def mxiT : List AV → LHp → Tq
  | [.d (.int .i64) k, .d (.int .i64) r], [] => .leaf (.ret [I (axV k r)]) []
  | _, _ => .no
theorem mxiT_ok : FnE.OK e0.P e0.gam 81 (treeE mxiT) := by
  have h2 : FnE.OK e0.P e0.gam 81 (execFnC g216 Tryz.f81 4 []) := execFnC_ok g216_good hmix Tryz.func81 Tryz.call81 (by decide +kernel) rfl
  refine ⟨fun _ _ _ => Tq.eq _ _, fun args hs ae hs' h => ?_⟩
  have h' : (mxiT args hs).run ah = some (ae, hs') := h
  clear h
  unfold mxiT at h'
  split at h'
  · rename_i k r
    refine h2.okC ((mxi_eq k r).trans (Eq.trans ?_ h'))
    unfold axV
    cases decide (k < 0) <;> rfl
  · cases h'
noncomputable def whE : FnE := execFnC ((g182.add 85 (treeE sstT)).add 96 clE) Tryz.f78 5 []
theorem whE_ok : FnE.OK e0.P e0.gam 78 whE := execFnC_ok ((g182_good.add sstT_ok).add clE_ok) hmix Tryz.func78 Tryz.call78 (by decide +kernel) rfl
noncomputable def gWh : Env := g213.add 78 whE
theorem gWh_good : gWh.Good := g213_good.add whE_ok
theorem mwh_eq (t : Int) (d x : List Int) : runC gWh Tryz.f45 4 [] [.d (Y0) (t, d, x, ())] [] ah = bif decide (d.length ≤ 9223372036854775807) then  bif countE d != 0 then  bif countE d != 0 then some (AEnd.ret [(I 0).pr (AV.nils.pr (AV.nils.pr (AV.d Ty.unit PUnit.unit)))], []) else  bif decide (d ≠ [] ∧ d.length ≤ 65536) then some (AEnd.ret [(I 0).pr ((AV.os 0 0).pr (AV.nils.pr (AV.d Ty.unit PUnit.unit)))], [(0, AObj.arr 3 (i64T) 0 false d)]) else none else  bif decide (d ≠ [] ∧ d.length ≤ 65536) then some (AEnd.ret [(I 0).pr ((AV.os 0 0).pr ((AV.os 1 0).pr (AV.d Ty.unit PUnit.unit)))], [(0, AObj.arr 3 (i64T) 0 false d), (1, AObj.arr 3 (i64T) 0 false (strI d))]) else none else none := by kernel_rfl
def mwhT : List AV → LHp → Tq
  | [.d ((.pair (.int .i64) (.pair (.slice (.int .i64)) (.pair (.slice (.int .i64)) .unit)))) (_, d, _, ())], [] => .br (decide (countE d = 0 ∧ d ≠ [])) (.leaf (.ret [vwB 0 0 1]) [(0, .arr 3 i64T 0 false d), (1, .arr 3 i64T 0 false (strI d))]) .no
  | _, _ => .no
theorem mwhT_ok : FnE.OK e0.P e0.gam 45 (treeE mwhT) := by
  have h2 : FnE.OK e0.P e0.gam 45 (execFnC gWh Tryz.f45 4 []) := execFnC_ok gWh_good hmix Tryz.func45 Tryz.call45 (by decide +kernel) rfl
  refine ⟨fun _ _ _ => Tq.eq _ _, fun args hs ae hs' h => ?_⟩
  have h' : (mwhT args hs).run ah = some (ae, hs') := h
  clear h
  unfold mwhT at h'
  split at h'
  · rename_i t d x
    obtain ⟨hb, h3⟩ := Tq.br_no h'
    obtain ⟨c1, c2⟩ := of_decide_eq_true hb
    obtain ⟨_, c3, _⟩ := count_ok c1
    refine h2.okC ((mwh_eq t d x).trans (Eq.trans ?_ h3))
    rw [decide_eq_true (show d.length ≤ 9223372036854775807 by omega), decide_eq_true (show d ≠ [] ∧ d.length ≤ 65536 from ⟨c2, by omega⟩), c1]
    rfl
  · cases h'
noncomputable def owE : FnE := execFnC (g197.add 96 clE) Tryz.f110 4 []
theorem owE_ok : FnE.OK e0.P e0.gam 110 owE := execFnC_ok (g197_good.add clE_ok) hmix Tryz.func110 Tryz.call110 (by decide +kernel) rfl
noncomputable def vsE : FnE := execFnC ((g217.add 75 (treeE vfiT)).add 110 owE) Tryz.f82 7 []
theorem vsE_ok : FnE.OK e0.P e0.gam 82 vsE := execFnC_ok ((g217_good.add vfiT_ok).add owE_ok) hmix Tryz.func82 Tryz.call82 (by decide +kernel) rfl
noncomputable def C_msv : Code := codeOf Tryz.f48
noncomputable def cf_msv : Cfg := ⟨76, 7, 3, [(4, [2, 3, 4, 7, 8, 19, 20]), (10, [2, 4, 7, 10, 32, 33, 34])], true⟩
noncomputable def gSv : Env := (((g218.add 45 (treeE mwhT)).add 82 vsE).add 46 rgE).add 81 (treeE mxiT)
theorem gSv_good : gSv.Good := (((g218_good.add mwhT_ok).add vsE_ok).add rgE_ok).add mxiT_ok
end Go.Proofs.XGT
namespace Go.Proofs.XGT
open Go.Vm Go
set_option maxRecDepth 100000
set_option maxHeartbeats 1000000
/-- places inside dims -/
def inb : List Nat → List Nat → Prop
  | [], [] => True
  | c :: r, d :: t => c < d ∧ inb r t
  | _, _ => False
theorem inb_dig : ∀ {ds : List Nat} {q : Nat}, q < prodN ds → inb (dig ds q) ds
  | [], _, _ => trivial
  | d :: r, q, h => by
    have h : q < d * prodN r := h
    have hP : 0 < prodN r := by
      rcases Nat.eq_zero_or_pos (prodN r) with h0 | h0
      · rw [h0, Nat.mul_zero] at h; omega
      · exact h0
    exact ⟨Nat.div_lt_of_lt_mul (by rw [Nat.mul_comm]; exact h), inb_dig (Nat.mod_lt _ hP)⟩
theorem dot_dig : ∀ {ds : List Nat} {q : Nat}, q < prodN ds → dot (dig ds q) (strN ds) = q
  | [], q, h => by have h : q < 1 := h; show 0 = q; omega
  | d :: r, q, h => by
    have h : q < d * prodN r := h
    have hP : 0 < prodN r := by
      rcases Nat.eq_zero_or_pos (prodN r) with h0 | h0
      · rw [h0, Nat.mul_zero] at h; omega
      · exact h0
    show q / prodN r * prodN r + dot (dig r (q % prodN r)) (strN r) = q
    rw [dot_dig (Nat.mod_lt _ hP), Nat.mul_comm]
    exact Nat.div_add_mod _ _
theorem dot_lt : ∀ {c ds : List Nat}, inb c ds → dot c (strN ds) < prodN ds
  | [], [], _ => Nat.zero_lt_one
  | c :: r, d :: t, h => by
    have h2 := dot_lt h.2
    have h3 : (c + 1) * prodN t ≤ d * prodN t := Nat.mul_le_mul_right _ h.1
    rw [Nat.add_mul, Nat.one_mul] at h3
    show c * prodN t + dot r (strN t) < d * prodN t
    omega
  | [], _ :: _, h => h.elim
  | _ :: _, [], h => h.elim
theorem dig_dot : ∀ {c ds : List Nat}, inb c ds → dig ds (dot c (strN ds)) = c
  | [], [], _ => rfl
  | c :: r, d :: t, h => by
    have h2 := dot_lt h.2
    have h3 := dig_dot h.2
    show (c * prodN t + dot r (strN t)) / prodN t :: dig t ((c * prodN t + dot r (strN t)) % prodN t) = c :: r
    have hP : 0 < prodN t := by omega
    have e1 : (c * prodN t + dot r (strN t)) / prodN t = c := by
      rw [Nat.mul_comm, Nat.mul_add_div hP, Nat.div_eq_of_lt h2, Nat.add_zero]
    have e2 : (c * prodN t + dot r (strN t)) % prodN t = dot r (strN t) := by
      rw [Nat.mul_comm, Nat.mul_add_mod, Nat.mod_eq_of_lt h2]
    rw [e1, e2, h3]
  | [], _ :: _, h => h.elim
  | _ :: _, [], h => h.elim
theorem nodup_le : ∀ (N : Nat) {l : List Nat}, l.Nodup → (∀ x ∈ l, x < N) → l.length ≤ N
  | 0, [], _, _ => Nat.le_refl _
  | 0, x :: _, _, h => absurd (h x (by simp)) (Nat.not_lt_zero _)
  | N + 1, l, hd, h => by
    by_cases hm : N ∈ l
    · have h1 := nodup_le N (l := l.erase N) (hd.erase N) fun x hx => by
        have := h x (List.mem_of_mem_erase hx)
        have hne : x ≠ N := ((hd.mem_erase_iff).1 hx).1
        omega
      rw [List.length_erase_of_mem hm] at h1
      omega
    · have h1 := nodup_le N hd fun x hx => by
        have := h x hx
        have hne : x ≠ N := fun e => hm (e ▸ hx)
        omega
      omega
theorem nodup_perm : ∀ (N : Nat) {l : List Nat}, l.Nodup → (∀ x ∈ l, x < N) → l.length = N → l.Perm (List.range N)
  | 0, [], _, _, _ => List.Perm.nil
  | N + 1, l, hd, h, hl => by
    have hm : N ∈ l := by
      rcases Classical.em (N ∈ l) with hm | hm
      · exact hm
      · have h1 := nodup_le N hd fun x hx => by
          have := h x hx
          have hne : x ≠ N := fun e => hm (e ▸ hx)
          omega
        omega
    have h1 := nodup_perm N (l := l.erase N) (hd.erase N) (fun x hx => by
      have := h x (List.mem_of_mem_erase hx)
      have hne : x ≠ N := ((hd.mem_erase_iff).1 hx).1
      omega) (by rw [List.length_erase_of_mem hm]; omega)
    rw [List.range_succ]
    exact (List.perm_cons_erase hm).trans ((h1.cons N).trans (List.perm_append_singleton N (List.range N)).symm)
/-- back leads back: l then back is nothing, back then l is nothing -/
structure Opp (l back : List Nat) : Prop where
  len : back.length = l.length
  one : ∀ j, j < l.length → back.getD (l.getD j 0) 0 = j
  lt : ∀ j, j < l.length → l.getD j 0 < l.length
  pm : l.Perm (List.range l.length)
theorem Opp.two {l back : List Nat} (h : Opp l back) : ∀ k, k < l.length → l.getD (back.getD k 0) 0 = k := by
  intro k hk
  have hm : k ∈ l := h.pm.symm.subset (List.mem_range.2 hk)
  obtain ⟨j, hj, rfl⟩ := List.mem_iff_getElem.1 hm
  have e : l[j] = l.getD j 0 := by rw [List.getD_eq_getElem?_getD, List.getElem?_eq_getElem hj]; rfl
  rw [e, h.one j hj]
theorem Opp.lt2 {l back : List Nat} (h : Opp l back) : ∀ k, k < l.length → back.getD k 0 < l.length := by
  intro k hk
  have hm : k ∈ l := h.pm.symm.subset (List.mem_range.2 hk)
  obtain ⟨j, hj, rfl⟩ := List.mem_iff_getElem.1 hm
  have e : l[j] = l.getD j 0 := by rw [List.getD_eq_getElem?_getD, List.getElem?_eq_getElem hj]; rfl
  rw [e, h.one j hj]
  exact hj
theorem Opp.pm2 {l back : List Nat} (h : Opp l back) : back.Perm (List.range l.length) := by
  refine nodup_perm l.length ?_ (fun x hx => ?_) h.len
  · refine List.pairwise_iff_getElem.2 fun i j hi hj hij e => ?_
    have e1 : back[i] = back.getD i 0 := by rw [List.getD_eq_getElem?_getD, List.getElem?_eq_getElem hi]; rfl
    have e2 : back[j] = back.getD j 0 := by rw [List.getD_eq_getElem?_getD, List.getElem?_eq_getElem hj]; rfl
    rw [e1, e2] at e
    rw [h.len] at hi hj
    have h1 := h.two i hi
    have h2 := h.two j hj
    rw [e, h2] at h1
    omega
  · obtain ⟨k, hk, rfl⟩ := List.mem_iff_getElem.1 hx
    have e : back[k] = back.getD k 0 := by rw [List.getD_eq_getElem?_getD, List.getElem?_eq_getElem hk]; rfl
    rw [e]
    exact h.lt2 k (by rw [← h.len]; exact hk)
theorem Opp.symm {l back : List Nat} (h : Opp l back) : Opp back l :=
  ⟨h.len.symm, fun j hj => h.two j (by rw [← h.len]; exact hj), fun j hj => by rw [h.len] at hj ⊢; exact h.lt2 j hj, by rw [h.len]; exact h.pm2⟩
end Go.Proofs.XGT
namespace Go.Proofs.XGT
open Go.Vm Go
set_option maxRecDepth 100000
set_option maxHeartbeats 1000000
theorem numC_in {c lo hi : Int} {l : List Int} (h : numC c lo hi l = true) : (∀ v ∈ l, lo ≤ v ∧ v ≤ hi) ∧ (l.length : Int) = c := by
  unfold numC at h
  simp only [Bool.and_eq_true, beq_iff_eq] at h
  refine ⟨fun v hv => ?_, h.2⟩
  have := List.all_eq_true.1 h.1 v hv
  simp only [Bool.and_eq_true, decide_eq_true_eq] at this
  exact this
theorem ints_getD (D : List Nat) (k : Nat) : (ints D).getD k 0 = ((D.getD k 0 : Nat) : Int) := by
  unfold ints
  rw [List.getD_eq_getElem?_getD, List.getD_eq_getElem?_getD, List.getElem?_map]
  cases D[k]? <;> rfl
theorem count_ints {D : List Nat} (h1 : ∀ x ∈ D, 1 ≤ x) (h2 : prodN D ≤ 65536) (h3 : D.length ≤ 6) : countE (ints D) = 0 := by
  refine (countE_mk (xs := ints D) (fun v hv => ?_) (by rw [ints_len]; exact h3) (by rw [prodI_ints]; omega)).1
  obtain ⟨y, hy, rfl⟩ := List.mem_map.1 hv
  have := h1 y hy
  omega
theorem idx_in {xs : List Int} {p : Int} (h0 : 0 ≤ p) (h1 : p < xs.length) : idx xs p = some (xs.getD p.toNat 0) := by
  unfold idx
  rw [if_pos h0, List.getD_eq_getElem?_getD, List.getElem?_eq_getElem (by omega)]
  rfl
theorem get_in {xs : List Int} {p : Int} (h0 : 0 ≤ p) (h1 : p < xs.length) : xs[p.toNat]? = some (xs.getD p.toNat 0) := by
  rw [List.getD_eq_getElem?_getD, List.getElem?_eq_getElem (by omega)]
  rfl
theorem strN_le : ∀ {D : List Nat}, (∀ x ∈ D, 1 ≤ x) → ∀ s ∈ strN D, s ≤ prodN D
  | [], _, s, hs => by cases hs
  | d :: r, h, s, hs => by
    have h1 := h d (by simp)
    have h2 : ∀ x ∈ r, 1 ≤ x := fun x hx => h x (by simp [hx])
    have h4 : prodN r ≤ d * prodN r := Nat.le_mul_of_pos_left _ h1
    rcases List.mem_cons.1 (show s ∈ prodN r :: strN r from hs) with rfl | hs
    · exact h4
    · exact Nat.le_trans (strN_le h2 s hs) h4
theorem far_nat {s : Nat} (h : s ≤ 65536) : farB (s : Int) = false := by
  unfold farB
  rw [decide_eq_false (by omega), cond_false]
  exact decide_eq_false (by omega)
theorem fine_ints {D S : List Nat} (h1 : ∀ x ∈ D, 1 ≤ x) (h2 : prodN D ≤ 65536) (h3 : D.length ≤ 6) (h4 : S.length = D.length) (h5 : ∀ s ∈ S, s ≤ 65536) {o : Nat} (ho : o < 65536) : okFine (o : Int) (ints D) (ints S) = true := by
  refine decide_eq_true ⟨count_ints h1 h2 h3, by rw [ints_len, ints_len]; exact h4, by omega, by omega, fun x hx => ?_⟩
  obtain ⟨y, hy, rfl⟩ := List.mem_map.1 hx
  exact far_nat (h5 y hy)
theorem ints_toNat (D : List Nat) : (ints D).map Int.toNat = D := by
  unfold ints
  rw [List.map_map]
  exact List.map_id' D
theorem strI_ints (D : List Nat) : strI (ints D) = ints (strN D) := by unfold strI; rw [ints_toNat]
theorem getD_mem {L : List Nat} {j : Nat} (h : j < L.length) : L.getD j 0 ∈ L := by
  rw [List.getD_eq_getElem?_getD, List.getElem?_eq_getElem h]
  exact List.getElem_mem h
end Go.Proofs.XGT
namespace Go.Proofs.XGT
open Go.Vm Go
set_option maxRecDepth 100000
set_option maxHeartbeats 1000000
theorem prodN_mid (D1 D2 : List Nat) (n : Nat) : prodN (D1 ++ n :: D2) = prodN D1 * (n * prodN D2) := by rw [prodN_app]; rfl
theorem dot_cut {D2 : List Nat} {n m : Nat} : ∀ (D1 : List Nat) (q : Nat), q < prodN (D1 ++ n :: D2) → dot (dig (D1 ++ n :: D2) q) (strN (D1 ++ m :: D2)) = q / (n * prodN D2) * (m * prodN D2) + q % (n * prodN D2)
  | [], q, h => by
    have h : q < n * prodN D2 := h
    have hP : 0 < prodN D2 := by
      rcases Nat.eq_zero_or_pos (prodN D2) with h0 | h0
      · rw [h0, Nat.mul_zero] at h; omega
      · exact h0
    show q / prodN D2 * prodN D2 + dot (dig D2 (q % prodN D2)) (strN D2) = _
    rw [dot_dig (Nat.mod_lt _ hP), Nat.div_eq_of_lt h, Nat.mod_eq_of_lt h, Nat.zero_mul, Nat.zero_add, Nat.mul_comm]
    exact Nat.div_add_mod _ _
  | c :: D1, q, h => by
    have h : q < c * prodN (D1 ++ n :: D2) := h
    have hB : 0 < prodN (D1 ++ n :: D2) := by
      rcases Nat.eq_zero_or_pos (prodN (D1 ++ n :: D2)) with h0 | h0
      · rw [h0, Nat.mul_zero] at h; omega
      · exact h0
    have ih := dot_cut (m := m) D1 (q % prodN (D1 ++ n :: D2)) (Nat.mod_lt _ hB)
    show q / prodN (D1 ++ n :: D2) * prodN (D1 ++ m :: D2) + dot (dig (D1 ++ n :: D2) (q % prodN (D1 ++ n :: D2))) (strN (D1 ++ m :: D2)) = _
    rw [ih, prodN_mid, prodN_mid]
    generalize hb : n * prodN D2 = b
    generalize hb' : m * prodN D2 = b'
    rw [prodN_mid, hb] at hB
    have hb0 : 0 < b := by
      rcases Nat.eq_zero_or_pos b with h0 | h0
      · rw [h0, Nat.mul_zero] at hB; omega
      · exact h0
    have e1 : q % (prodN D1 * b) % b = q % b := Nat.mod_mul_left_mod _ _ _
    have e2 : q / b = q / (prodN D1 * b) * prodN D1 + q % (prodN D1 * b) / b := by
      have h1 := Nat.div_add_mod q (prodN D1 * b)
      have h2 : q = (q % (prodN D1 * b)) + b * (q / (prodN D1 * b) * prodN D1) := by
        have : b * (q / (prodN D1 * b) * prodN D1) = prodN D1 * b * (q / (prodN D1 * b)) := by
          rw [Nat.mul_comm (q / (prodN D1 * b)), ← Nat.mul_assoc, Nat.mul_comm b]
        omega
      have h3 : q / b = ((q % (prodN D1 * b)) + b * (q / (prodN D1 * b) * prodN D1)) / b := congrArg (· / b) h2
      rw [h3, Nat.add_mul_div_left _ _ hb0]
      omega
    rw [e1, e2, Nat.add_mul, ← Nat.mul_assoc]
    omega
end Go.Proofs.XGT
namespace Go.Proofs.XGT
open Go.Vm Go
set_option maxRecDepth 100000
set_option maxHeartbeats 4000000
theorem set_inJ {xs : List Int} {p v : Int} (h0 : 0 ≤ p) (h1 : p < xs.length) : setN xs p.toNat v = some (xs.set p.toNat v) := by
  unfold setN
  rw [show Nat.blt p.toNat xs.length = true from Nat.ble_eq_true_of_le (by omega), cond_true]
def axN (k : Int) (d : List Int) : Nat := (axV k (Int.ofNat d.length)).toNat
def slN (d : List Int) (s e k : Int) : Int := IntKind.i64.wrap (bndI e (d.getD (axN k d) 0) - bndI s (d.getD (axN k d) 0))
/-- dims that may be, about an axis -/
structure Mid (d : List Int) (A : Nat) (D1 D2 : List Nat) (m : Nat) : Prop where
  eq : d = ints (D1 ++ m :: D2)
  len : D1.length = A
  one : ∀ x ∈ D1 ++ m :: D2, 1 ≤ x
  prod : prodN (D1 ++ m :: D2) ≤ 65536
  rank : (D1 ++ m :: D2).length ≤ 6
theorem ints_app (a b : List Nat) : ints (a ++ b) = ints a ++ ints b := by unfold ints; rw [List.map_append]
theorem Mid.get {d : List Int} {A : Nat} {D1 D2 : List Nat} {m : Nat} (h : Mid d A D1 D2 m) : d.getD A 0 = (m : Int) := by
  rw [h.eq, ints_getD, List.getD_eq_getElem?_getD, List.getElem?_append_right (by rw [h.len]; exact Nat.le_refl _), h.len, Nat.sub_self]
  rfl
theorem Mid.set {d : List Int} {A : Nat} {D1 D2 : List Nat} {m : Nat} (h : Mid d A D1 D2 m) (n : Nat) : d.set A (n : Int) = ints (D1 ++ n :: D2) := by
  rw [h.eq, ints_app, ints_app, ints_cons, ints_cons, List.set_append_right _ _ (by rw [ints_len, h.len]; exact Nat.le_refl _), ints_len, h.len, Nat.sub_self]
  rfl
theorem Mid.str {d : List Int} {A : Nat} {D1 D2 : List Nat} {m : Nat} (h : Mid d A D1 D2 m) : (strI d).getD A 0 = ((prodN D2 : Nat) : Int) := by
  have e : ∀ (D1 : List Nat), (strN (D1 ++ m :: D2)).getD D1.length 0 = prodN D2 := by
    intro D1
    induction D1 with
    | nil => rfl
    | cons a r ih => exact ih
  rw [h.eq, strI_ints, ints_getD, ← h.len, e]
theorem Mid.m1 {d : List Int} {A : Nat} {D1 D2 : List Nat} {m : Nat} (h : Mid d A D1 D2 m) : 1 ≤ m := h.one m (by simp)
theorem Mid.lt {d : List Int} {A : Nat} {D1 D2 : List Nat} {m : Nat} (h : Mid d A D1 D2 m) : A < d.length := by rw [h.eq, ints_len, List.length_append, List.length_cons, ← h.len]; omega
/-- with another number there, no greater -/
theorem Mid.cut {d : List Int} {A : Nat} {D1 D2 : List Nat} {m n : Nat} (h : Mid d A D1 D2 m) (h1 : 1 ≤ n) (h2 : n ≤ m) : Mid (d.set A (n : Int)) A D1 D2 n := by
  refine ⟨h.set n, h.len, fun x hx => ?_, ?_, ?_⟩
  · rcases List.mem_append.1 hx with hx | hx
    · exact h.one x (by simp [hx])
    · rcases List.mem_cons.1 hx with rfl | hx
      · exact h1
      · exact h.one x (by simp [hx])
  · refine Nat.le_trans ?_ h.prod
    rw [prodN_mid, prodN_mid]
    exact Nat.mul_le_mul_left _ (Nat.mul_le_mul_right _ h2)
  · have := h.rank
    simp only [List.length_append, List.length_cons] at this ⊢
    omega
theorem Mid.count {d : List Int} {A : Nat} {D1 D2 : List Nat} {m : Nat} (h : Mid d A D1 D2 m) : countE d = 0 := by rw [h.eq]; exact count_ints h.one h.prod h.rank
end Go.Proofs.XGT
namespace Go.Proofs.XGT
open Go.Vm Go
set_option maxRecDepth 100000
set_option maxHeartbeats 4000000
/-- a part that may be cut: its numbers -/
structure Cut (d x : List Int) (s e k : Int) (D1 D2 : List Nat) (m f n : Nat) : Prop where
  mid : Mid d (axN k d) D1 D2 m
  hF : bndI s (m : Int) = (f : Int)
  hN : slN d s e k = (n : Int)
  hE : bndI e (m : Int) = ((f + n : Nat) : Int)
  hone : 1 ≤ n
  hfn : f + n ≤ m
theorem Cut.okRG {d x : List Int} {s e k : Int} {D1 D2 : List Nat} {m f n : Nat} (h : Cut d x s e k D1 D2 m f n) (hx : x.length = prodN (D1 ++ m :: D2)) : okRG ((f * prodN D2 : Nat) : Int) (d.set (axN k d) (slN d s e k)) (strI d) x = true := by
  have hcut := h.mid.cut (n := n) h.hone (by have := h.hfn; omega)
  have hP2 : 1 ≤ prodN D2 := prodN_pos fun y hy => h.mid.one y (by simp [hy])
  have hP1 : 1 ≤ prodN D1 := prodN_pos fun y hy => h.mid.one y (by simp [hy])
  have hfn := h.hfn
  have hn1 := h.hone
  have e1 : (f + n) * prodN D2 ≤ m * prodN D2 := Nat.mul_le_mul_right _ hfn
  have e2 : 1 * (m * prodN D2) ≤ prodN D1 * (m * prodN D2) := Nat.mul_le_mul_right _ hP1
  have e3 : 1 * prodN D2 ≤ n * prodN D2 := Nat.mul_le_mul_right _ hn1
  rw [Nat.add_mul] at e1
  have hpr := h.mid.prod
  rw [prodN_mid] at hpr hx
  unfold Go.Proofs.XGT.okRG
  rw [Bool.and_eq_true, h.hN, h.mid.set]
  constructor
  · rw [h.mid.eq, strI_ints]
    refine fine_ints (o := f * prodN D2) ?_ ?_ ?_ (by rw [strN_len, List.length_append, List.length_append]; rfl) (fun s hs => Nat.le_trans (strN_le h.mid.one s hs) h.mid.prod) (by omega)
    · exact hcut.one
    · exact hcut.prod
    · exact hcut.rank
  · refine decide_eq_true fun q hq => ?_
    rw [ints_toNat] at hq
    rw [ints_toNat, h.mid.eq, strI_ints, ints_toNat, Int.toNat_natCast, dot_cut D1 q hq, hx]
    rw [prodN_mid] at hq
    have hnP : 0 < n * prodN D2 := by omega
    have hi : q / (n * prodN D2) < prodN D1 := Nat.div_lt_of_lt_mul (by rw [Nat.mul_comm]; exact hq)
    have hr : q % (n * prodN D2) < n * prodN D2 := Nat.mod_lt _ hnP
    have e4 : (q / (n * prodN D2) + 1) * (m * prodN D2) ≤ prodN D1 * (m * prodN D2) := Nat.mul_le_mul_right _ hi
    rw [Nat.add_mul, Nat.one_mul] at e4
    omega
end Go.Proofs.XGT
namespace Go.Proofs.XGT
open Go.Vm Go
set_option maxRecDepth 100000
set_option maxHeartbeats 4000000
def padV (d pm : List Int) (j : Nat) : Int := d.getD j 0 + (pm.getD j 0 + pm.getD (d.length + j) 0)
def padD (d pm : List Int) : List Int := tab d.length (padV d pm)
def padI (d pm : List Int) (i : Nat) : List Int := tab d.length fun j => if j < i then padV d pm j else d.getD j 0
theorem set_tab {n i : Nat} {f : Nat → Int} {v : Int} (h : i < n) : setN (tab n f) i v = some (tab n fun j => if j = i then v else f j) := by
  unfold setN
  rw [tab_length, show Nat.blt i n = true from Nat.ble_eq_true_of_le h, cond_true]
  congr 1
  apply List.ext_getElem?
  intro j
  by_cases hj : j < n
  · by_cases e : i = j
    · subst e
      rw [List.getElem?_set_self (by rw [tab_length]; exact h), tab_get hj, if_pos rfl]
    · rw [List.getElem?_set_ne e, tab_get hj, tab_get hj, if_neg (fun h => e h.symm)]
  · rw [List.getElem?_eq_none (by rw [List.length_set, tab_length]; omega), List.getElem?_eq_none (by rw [tab_length]; omega)]
theorem mpd_lp {t : Int} {d pm : List Int} (hd : ∀ j, j < d.length → 0 ≤ d.getD j 0 ∧ d.getD j 0 ≤ 65536) (hp : ∀ j, j < 2 * d.length → 0 ≤ pm.getD j 0 ∧ pm.getD j 0 ≤ 65536) (hl : pm.length = 2 * d.length) (h6 : d.length ≤ 6) : ∀ (r i n : Nat), i + r = d.length → r < n →
    lp gMp cf_mpd (cL (cL (cR (cL (cR (cR (cR C_mpd))))))) n (stMp t d pm (padI d pm i) (i : Nat)) KMp = some (.ret [.os 3 0], hpMp t d pm ++ [(3, .arr 3 i64T 0 false (padD d pm))]) := by
  intro r
  induction r with
  | zero =>
    intro i n hi hn
    obtain ⟨n, rfl⟩ : ∃ m', n = m' + 1 := ⟨n - 1, by omega⟩
    rw [mpd_st, decide_eq_false (show ¬ ((i : Int) < Int.ofNat d.length) by simp only [Int.ofNat_eq_natCast]; omega), cond_false]
    have e : padI d pm i = padD d pm := tab_congr fun j hj => by rw [if_pos (by omega)]
    rw [e]
    exact mpd_ex _ _ _ _ _ _
  | succ r ih =>
    intro i n hi hn
    obtain ⟨n, rfl⟩ : ∃ m', n = m' + 1 := ⟨n - 1, by omega⟩
    have key := ih (i + 1) n (by omega) (by omega)
    have e0 : IntKind.i64.wrap ((i : Int) + 1) = ((i + 1 : Nat) : Int) := by rw [wrap64 (by omega) (by omega)]; omega
    have e1 : IntKind.i64.wrap (Int.ofNat d.length + (i : Int)) = ((d.length + i : Nat) : Int) := by simp only [Int.ofNat_eq_natCast]; rw [wrap64 (by omega) (by omega)]; omega
    have hpl : (padI d pm i).length = d.length := tab_length _ _
    have hg : (padI d pm i)[i]? = some (d.getD i 0) := by
      have := tab_get (f := fun j => if j < i then padV d pm j else d.getD j 0) (show i < d.length by omega)
      rw [if_neg (Nat.lt_irrefl _)] at this
      exact this
    have g1 : idx (padI d pm i) (i : Int) = some (d.getD i 0) := by unfold idx; rw [if_pos (by omega), Int.toNat_natCast, hg]
    have g2 := idx_in (xs := pm) (p := (i : Int)) (by omega) (by omega)
    have g2' := get_in (xs := pm) (p := (i : Int)) (by omega) (by omega)
    have g3 := idx_in (xs := pm) (p := ((d.length + i : Nat) : Int)) (by omega) (by omega)
    have g3' := get_in (xs := pm) (p := ((d.length + i : Nat) : Int)) (by omega) (by omega)
    rw [Int.toNat_natCast] at g2 g2' g3 g3'
    have b1 := hd i (by omega)
    have b2 := hp i (by omega)
    have b3 := hp (d.length + i) (by omega)
    have w : IntKind.i64.wrap (d.getD i 0 + IntKind.i64.wrap (pm.getD i 0 + pm.getD (d.length + i) 0)) = padV d pm i := by
      rw [wrap64 (n := pm.getD i 0 + pm.getD (d.length + i) 0) (by omega) (by omega)]
      exact wrap64 (by omega) (by omega)
    have gs : setN (padI d pm i) i (padV d pm i) = some (padI d pm (i + 1)) := by
      unfold padI
      rw [set_tab (by omega)]
      congr 1
      refine tab_congr fun j hj => ?_
      by_cases e : j = i
      · subst e
        rw [if_pos rfl, if_pos (Nat.lt_succ_self _)]
      · rw [if_neg e]
        by_cases h : j < i
        · rw [if_pos h, if_pos (by omega)]
        · rw [if_neg h, if_neg (by omega)]
    rw [mpd_st, decide_eq_true (show (i : Int) < Int.ofNat d.length by simp only [Int.ofNat_eq_natCast]; omega), cond_true, e1, g1, Option.bind_some, Int.toNat_natCast, hg, Option.bind_some, g2, Option.bind_some, g2', Option.bind_some, g3, Option.bind_some, Int.toNat_natCast, g3', Option.bind_some, Option.bind_some, w, gs, Option.bind_some, e0]
    exact key
theorem mpd_run {t p : Int} {d pm : List Int} (hc : countE d = 0) (hl : (p :: pm).length ≤ 2147483648) : runC gMp Tryz.f166 6 [(4, [1, 5, 6, 17, 18])] [(nodeA strPA [] [121] (.os 2 0) (.os 1 0)).pr (.pr (.os 0 0) (.d .unit ())), .d (.slice i64T) d] (hpMp t d (p :: pm)) ah =
    bif numC (Int.ofNat (2 * d.length)) 0 65536 (p :: pm) then some (.ret [.os 3 0], hpMp t d (p :: pm) ++ [(3, .arr 3 i64T 0 false (padD d (p :: pm)))]) else some (.panic 123 4, hpMp t d (p :: pm)) := by
  obtain ⟨c1, c2, c3, _⟩ := count_ok hc
  have w : IntKind.i64.wrap (Int.ofNat (2 * d.length)) = Int.ofNat (2 * d.length) := wrap64 (by simp only [Int.ofNat_eq_natCast]; omega) (by simp only [Int.ofNat_eq_natCast]; omega)
  cases hn : numC (Int.ofNat (2 * d.length)) 0 65536 (p :: pm) with
  | false =>
    rw [mpd_eqc, decide_eq_true hl, w, hn]
    rfl
  | true =>
    obtain ⟨m1, m2⟩ := numC_in hn
    have hlen : (p :: pm).length = 2 * d.length := by simp only [Int.ofNat_eq_natCast] at m2; omega
    have hne : d ≠ [] := fun e => by rw [e] at hlen; simp only [List.length_cons, List.length_nil] at hlen; omega
    obtain ⟨D, eD, _, o1, o2, _⟩ := nat_dims hc
    have key : runC gMp Tryz.f166 6 [(4, [1, 5, 6, 17, 18])] [(nodeA strPA [] [121] (.os 2 0) (.os 1 0)).pr (.pr (.os 0 0) (.d .unit ())), .d (.slice i64T) d] (hpMp t d (p :: pm)) ah = lp gMp cf_mpd (cL (cL (cR (cL (cR (cR (cR C_mpd))))))) fu (stMp t d (p :: pm) d ((0 : Nat) : Int)) KMp := (mpd_eqc t p d pm).trans (by
      rw [decide_eq_true hl, w, hn, decide_eq_true (show d ≠ [] ∧ d.length ≤ 65536 from ⟨hne, by omega⟩), cond_true, cond_true, cond_true]
      kernel_rfl)
    have hf : fu = 18446744073709551616 := rfl
    have e0 : padI d (p :: pm) 0 = d := by
      have e1 : padI d (p :: pm) 0 = tab d.length fun j => d.getD j 0 := tab_congr fun j _ => by rw [if_neg (Nat.not_lt_zero _)]
      rw [e1]
      apply List.ext_getElem?
      intro j
      by_cases hj : j < d.length
      · rw [tab_get hj, List.getD_eq_getElem?_getD, List.getElem?_eq_getElem hj]
        rfl
      · rw [List.getElem?_eq_none (by rw [tab_length]; omega), List.getElem?_eq_none (by omega)]
    refine key.trans ?_
    have := mpd_lp (t := t) (d := d) (pm := p :: pm) (fun j hj => by
      rw [eD, ints_getD]
      have hjD : j < D.length := by rw [eD, ints_len] at hj; exact hj
      have := Nat.le_trans (le_prodN o1 _ (getD_mem hjD)) o2
      omega) (fun j hj => by
      have hj' : j < (p :: pm).length := by omega
      rw [List.getD_eq_getElem?_getD, List.getElem?_eq_getElem hj']
      exact m1 _ (List.getElem_mem _)) hlen c2 d.length 0 fu (by omega) (by omega)
    rw [e0] at this
    exact this
theorem mpd_run0 {t : Int} {d : List Int} (hc : countE d = 0) (hne : d ≠ []) : runC gMp Tryz.f166 6 [(4, [1, 5, 6, 17, 18])] [(nodeA strPA [] [121] (.os 2 0) (.os 1 0)).pr (.pr (.os 0 0) (.d .unit ())), .d (.slice i64T) d] (hpMp t d []) ah =
    bif numC (Int.ofNat (2 * d.length)) 0 65536 [] then some (.ret [.os 3 0], hpMp t d [] ++ [(3, .arr 3 i64T 0 false (padD d []))]) else some (.panic 123 4, hpMp t d []) := by
  obtain ⟨c1, c2, c3, _⟩ := count_ok hc
  have hl : 0 < d.length := by
    rcases Nat.eq_zero_or_pos d.length with h | h
    · exact absurd (List.eq_nil_of_length_eq_zero h) hne
    · exact h
  have w : IntKind.i64.wrap (Int.ofNat (2 * d.length)) = Int.ofNat (2 * d.length) := wrap64 (by simp only [Int.ofNat_eq_natCast]; omega) (by simp only [Int.ofNat_eq_natCast]; omega)
  have hn : numC (Int.ofNat (2 * d.length)) 0 65536 [] = false := by
    cases h : numC (Int.ofNat (2 * d.length)) 0 65536 [] with
    | false => rfl
    | true =>
      have := (numC_in h).2
      simp only [List.length_nil, Int.ofNat_eq_natCast] at this
      omega
  rw [mpd_eqn, w, hn, show (Int.ofNat (2 * d.length) != 0) = true by rw [bne_iff_ne]; simp only [Int.ofNat_eq_natCast]; omega]
  rfl
def mpdT : List AV → LHp → Tq
  | [.pr n (.pr (.os 0 0) (.d .unit ())), .d (.slice (.int .i64)) d], [(0, .arr 49 ((.pair .str (.pair (.int .i64) (.pair (.slice (.int .i64)) .unit)))) 0 true [(nm1, t, d1, ())]), (1, .arr 37 ((.pair .str (.pair (.int .i64) (.pair (.int .i64) (.pair (.int .i64) (.pair .str (.pair (.pair (.int .i64) (.pair (.slice (.int .i64)) (.pair (.slice (.int .i64)) .unit))) (.pair (.slice (.int .i64)) .unit)))))))) 0 true [a]), (2, .arr 9 .str 0 false ins)] =>
    (match nodeP n with
    | some (op, nm, out, .os 2 0, .os 1 0) => gate (decide (op = strPA) && decide (nm = []) && decide (out = [121]) && decide (ins = [[120]]) && isL a strPads && decide (nm1 = []))
        (.br (decide (d = d1 ∧ countE d1 = 0 ∧ ¬ (d1 = [] ∧ a.2.2.2.2.2.2.1 = []) ∧ a.2.2.2.2.2.2.1.length ≤ 2147483648)) (.br (numC (Int.ofNat (2 * d1.length)) 0 65536 a.2.2.2.2.2.2.1) (.leaf (.ret [.os 3 0]) (hpMp t d1 a.2.2.2.2.2.2.1 ++ [(3, .arr 3 i64T 0 false (padD d1 a.2.2.2.2.2.2.1))])) (.leaf (.panic 123 4) (hpMp t d1 a.2.2.2.2.2.2.1))) .no)
    | _ => .no)
  | _, _ => .no
theorem mpdT_ok : FnE.OK e0.P e0.gam 166 (treeE mpdT) := by
  have h1 : FnE.OK e0.P e0.gam 166 (execFnC gMp Tryz.f166 6 [(4, [1, 5, 6, 17, 18])]) := execFnC_ok gMp_good hmix Tryz.func166 Tryz.call166 (by decide +kernel) rfl
  refine ⟨fun _ _ _ => Tq.eq _ _, fun args hs ae hs' h => ?_⟩
  have h' : (mpdT args hs).run ah = some (ae, hs') := h
  clear h
  unfold mpdT at h'
  split at h'
  · rename_i n d nm1 t d1 a ins
    split at h'
    · rename_i hn
      rw [nodeP_some hn]
      obtain ⟨hb, h2⟩ := gate_run h'
      clear h'
      simp only [Bool.and_eq_true, decide_eq_true_eq] at hb
      obtain ⟨⟨⟨⟨⟨b1, b2⟩, b3⟩, b4⟩, b5⟩, b6⟩ := hb
      subst b1 b2 b3 b4 b6
      obtain ⟨l, rfl⟩ := isL_eq b5
      change (Tq.br (decide (d = d1 ∧ countE d1 = 0 ∧ ¬ (d1 = [] ∧ l = []) ∧ l.length ≤ 2147483648)) (.br (numC (Int.ofNat (2 * d1.length)) 0 65536 l) (.leaf (.ret [.os 3 0]) (hpMp t d1 l ++ [(3, .arr 3 i64T 0 false (padD d1 l))])) (.leaf (.panic 123 4) (hpMp t d1 l))) .no).run ah = _ at h2
      obtain ⟨hc, h3⟩ := Tq.br_no h2
      obtain ⟨rfl, c2, c3, c4⟩ := of_decide_eq_true hc
      change (bif numC (Int.ofNat (2 * d.length)) 0 65536 l then _ else _) = _ at h3
      cases l with
      | nil => exact h1.okC ((mpd_run0 c2 fun e => c3 ⟨e, rfl⟩).trans h3)
      | cons p pm => exact h1.okC ((mpd_run c2 c4).trans h3)
    · cases h'
  · cases h'
noncomputable def mvP : FnE := execFnC (g149.add 166 (treeE mpdT)) Tryz.f127 7 []
theorem mvP_ok : FnE.OK e0.P e0.gam 127 mvP := execFnC_ok (g149_good.add mpdT_ok) hmix Tryz.func127 Tryz.call127 (by decide +kernel) rfl
noncomputable def dmP : FnE := execFnC (g150.add 127 mvP) Tryz.f94 8 [(56, [3, 132, 133, 134])]
theorem dmP_ok : FnE.OK e0.P e0.gam 94 dmP := execFnC_ok (g150_good.add mvP_ok) hmix Tryz.func94 Tryz.call94 (by decide +kernel) rfl
noncomputable def ouP : FnE := execFnDC ((g152.add 94 dmP).add 96 clE) Tryz.f55 7 [(5, [1, 2, 4, 5, 26, 27, 28])] dd55
theorem ouP_ok : FnE.OK e0.P e0.gam 55 ouP := execFnDC_ok ((g152_good.add dmP_ok).add clE_ok) (execFnD_ok (D := dd55) ((g152_good.add dmP_ok).add clE_ok) hmix Tryz.func55 Tryz.call55 rfl rfl (by decide +kernel) rfl Tryz.func89 Tryz.call89 rfl rfl (by decide +kernel))
noncomputable def gPb : Env := g212.add 55 ouP
theorem gPb_good : gPb.Good := g212_good.add ouP_ok
theorem pb_eq (t : Int) (d pm x : List Int) : runC gPb Tryz.f42 6 [(3, [2, 4, 6, 9, 10, 11])] [nodeA strPA [] [121] (.os 2 0) (.os 1 0), .os 0 0] (hpTb false t d x [lattr strPads pm]) ah = bif decide (d.length ≤ 9223372036854775807 ∧ x.length ≤ 9223372036854775807) then  bif tenE t d x != 0 then some (AEnd.ret [(AV.d Ty.str []).pr ((I 0).pr (AV.nils.pr (AV.d Ty.unit PUnit.unit))), I 1], [(0, AObj.arr 25 Y0 0 false [(t, d, x, ())]), (1, AObj.arr 37 (Ty.str.pair ((i64T).pair ((i64T).pair ((i64T).pair (Ty.str.pair (Y0.pair ((i64T).slice.pair Ty.unit))))))) 0 false [([112, 97, 100, 115], 7, 0, 0, [], (0, [], [], ()), pm, ())]), (2, AObj.arr 9 Ty.str 0 false [[120]])]) else  bif !numOk t 0 then some (AEnd.ret [(AV.d Ty.str []).pr ((I 0).pr (AV.nils.pr (AV.d Ty.unit PUnit.unit))), I 5], [(0, AObj.arr 25 Y0 0 false [(t, d, x, ())]), (1, AObj.arr 37 (Ty.str.pair ((i64T).pair ((i64T).pair ((i64T).pair (Ty.str.pair (Y0.pair ((i64T).slice.pair Ty.unit))))))) 0 true [([112, 97, 100, 115], 7, 0, 0, [], (0, [], [], ()), pm, ())]), (2, AObj.arr 9 Ty.str 0 false [[120]])]) else  bif decide (d.length ≤ 9223372036854775807) then  bif countE d != 0 then some (AEnd.ret [(AV.d Ty.str []).pr ((I 0).pr (AV.nils.pr (AV.d Ty.unit PUnit.unit))), I (countE d)], [(0, AObj.arr 25 Y0 0 false [(t, d, x, ())]), (1, AObj.arr 37 (Ty.str.pair ((i64T).pair ((i64T).pair ((i64T).pair (Ty.str.pair (Y0.pair ((i64T).slice.pair Ty.unit))))))) 0 true [([112, 97, 100, 115], 7, 0, 0, [], (0, [], [], ()), pm, ())]), (2, AObj.arr 9 Ty.str 0 false [[120]])]) else  bif t == 6 then  bif t != 1 then some (AEnd.ret [(AV.d Ty.str []).pr ((I 0).pr (AV.nils.pr (AV.d Ty.unit PUnit.unit))), I 4], [(0, AObj.arr 25 Y0 0 false [(t, d, x, ())]), (1, AObj.arr 37 (Ty.str.pair ((i64T).pair ((i64T).pair ((i64T).pair (Ty.str.pair (Y0.pair ((i64T).slice.pair Ty.unit))))))) 0 true [([112, 97, 100, 115], 7, 0, 0, [], (0, [], [], ()), pm, ())]), (2, AObj.arr 9 Ty.str 0 false [[120]])]) else  bif decide (d = d ∧ countE d = 0 ∧ ¬(d = [] ∧ pm = []) ∧ pm.length ≤ 2147483648) then  bif numC (Int.ofNat (2 * d.length)) 0 65536 pm then  bif decide ((padD d pm).length ≤ 9223372036854775807) then  bif countE (padD d pm) != 0 then some (AEnd.ret [(AV.d Ty.str []).pr ((I 0).pr (AV.nils.pr (AV.d Ty.unit PUnit.unit))), I (countE (padD d pm))], [(0, AObj.arr 25 Y0 0 false [(t, d, x, ())]), (1, AObj.arr 37 (Ty.str.pair ((i64T).pair ((i64T).pair ((i64T).pair (Ty.str.pair (Y0.pair ((i64T).slice.pair Ty.unit))))))) 0 true [([112, 97, 100, 115], 7, 0, 0, [], (0, [], [], ()), pm, ())]), (2, AObj.arr 9 Ty.str 0 false [[120]])]) else  bif decide (padD d pm ≠ [] ∧ (padD d pm).length ≤ 65536) then some (AEnd.ret [(AV.d Ty.str [121]).pr ((I t).pr ((AV.os 3 0).pr (AV.d Ty.unit PUnit.unit))), I 0], [(0, AObj.arr 25 Y0 0 false [(t, d, x, ())]), (1, AObj.arr 37 (Ty.str.pair ((i64T).pair ((i64T).pair ((i64T).pair (Ty.str.pair (Y0.pair ((i64T).slice.pair Ty.unit))))))) 0 true [([112, 97, 100, 115], 7, 0, 0, [], (0, [], [], ()), pm, ())]), (2, AObj.arr 9 Ty.str 0 false [[120]]), (3, AObj.arr 3 (i64T) 0 false (padD d pm))]) else none else none else some (AEnd.ret [(AV.d Ty.str []).pr ((I 0).pr (AV.nils.pr (AV.d Ty.unit PUnit.unit))), I 4], [(0, AObj.arr 25 Y0 0 false [(t, d, x, ())]), (1, AObj.arr 37 (Ty.str.pair ((i64T).pair ((i64T).pair ((i64T).pair (Ty.str.pair (Y0.pair ((i64T).slice.pair Ty.unit))))))) 0 true [([112, 97, 100, 115], 7, 0, 0, [], (0, [], [], ()), pm, ())]), (2, AObj.arr 9 Ty.str 0 false [[120]])]) else none else  bif t != 1 then some (AEnd.ret [(AV.d Ty.str []).pr ((I 0).pr (AV.nils.pr (AV.d Ty.unit PUnit.unit))), I 4], [(0, AObj.arr 25 Y0 0 false [(t, d, x, ())]), (1, AObj.arr 37 (Ty.str.pair ((i64T).pair ((i64T).pair ((i64T).pair (Ty.str.pair (Y0.pair ((i64T).slice.pair Ty.unit))))))) 0 true [([112, 97, 100, 115], 7, 0, 0, [], (0, [], [], ()), pm, ())]), (2, AObj.arr 9 Ty.str 0 false [[120]])]) else  bif decide (d = d ∧ countE d = 0 ∧ ¬(d = [] ∧ pm = []) ∧ pm.length ≤ 2147483648) then  bif numC (Int.ofNat (2 * d.length)) 0 65536 pm then  bif decide ((padD d pm).length ≤ 9223372036854775807) then  bif countE (padD d pm) != 0 then some (AEnd.ret [(AV.d Ty.str []).pr ((I 0).pr (AV.nils.pr (AV.d Ty.unit PUnit.unit))), I (countE (padD d pm))], [(0, AObj.arr 25 Y0 0 false [(t, d, x, ())]), (1, AObj.arr 37 (Ty.str.pair ((i64T).pair ((i64T).pair ((i64T).pair (Ty.str.pair (Y0.pair ((i64T).slice.pair Ty.unit))))))) 0 true [([112, 97, 100, 115], 7, 0, 0, [], (0, [], [], ()), pm, ())]), (2, AObj.arr 9 Ty.str 0 false [[120]])]) else  bif decide (padD d pm ≠ [] ∧ (padD d pm).length ≤ 65536) then some (AEnd.ret [(AV.d Ty.str [121]).pr ((I t).pr ((AV.os 3 0).pr (AV.d Ty.unit PUnit.unit))), I 0], [(0, AObj.arr 25 Y0 0 false [(t, d, x, ())]), (1, AObj.arr 37 (Ty.str.pair ((i64T).pair ((i64T).pair ((i64T).pair (Ty.str.pair (Y0.pair ((i64T).slice.pair Ty.unit))))))) 0 true [([112, 97, 100, 115], 7, 0, 0, [], (0, [], [], ()), pm, ())]), (2, AObj.arr 9 Ty.str 0 false [[120]]), (3, AObj.arr 3 (i64T) 0 false (padD d pm))]) else none else none else some (AEnd.ret [(AV.d Ty.str []).pr ((I 0).pr (AV.nils.pr (AV.d Ty.unit PUnit.unit))), I 4], [(0, AObj.arr 25 Y0 0 false [(t, d, x, ())]), (1, AObj.arr 37 (Ty.str.pair ((i64T).pair ((i64T).pair ((i64T).pair (Ty.str.pair (Y0.pair ((i64T).slice.pair Ty.unit))))))) 0 true [([112, 97, 100, 115], 7, 0, 0, [], (0, [], [], ()), pm, ())]), (2, AObj.arr 9 Ty.str 0 false [[120]])]) else none else none else none := by kernel_rfl
end Go.Proofs.XGT
namespace Go.Proofs.XGT
open Go.Vm Go
set_option maxRecDepth 100000
set_option maxHeartbeats 4000000
def ccD (v : Int) (d1 d2 : List Int) : List Int := d1.set (axN v d1) (d1.getD (axN v d1) 0 + d2.getD (axN v d1) 0)
structure Two (v : Int) (d1 d2 : List Int) (D1 D2 : List Nat) (n1 n2 : Nat) : Prop where
  ax : axV v (Int.ofNat d1.length) = (D1.length : Nat)
  m1 : Mid d1 D1.length D1 D2 n1
  m2 : Mid d2 D1.length D1 D2 n2
theorem Two.dims {v : Int} {d1 d2 : List Int} {D1 D2 : List Nat} {n1 n2 : Nat} (h : Two v d1 d2 D1 D2 n1 n2) : ccD v d1 d2 = ints (D1 ++ (n1 + n2) :: D2) := by
  unfold ccD axN
  rw [h.ax, Int.toNat_natCast, h.m1.get, h.m2.get, ← Int.natCast_add, h.m1.set]
end Go.Proofs.XGT
namespace Go.Proofs.XGT
open Go.Vm Go
set_option maxRecDepth 100000
set_option maxHeartbeats 4000000
def padE (t : Int) (d l : List Int) : Int := bif t != 1 then 4 else bif numC (Int.ofNat (2 * d.length)) 0 65536 l then countE (padD d l) else 4
theorem padD_len (d l : List Int) : (padD d l).length = d.length := tab_length _ _
theorem pb_run {t : Int} {d l x : List Int} (hx : x.length ≤ maxLen) (hd : d.length ≤ maxLen) (hl : l.length ≤ 2147483648) (ht : tenE t d x = 0) (hne : ¬ (d = [] ∧ l = [])) : runC gPb Tryz.f42 6 [(3, [2, 4, 6, 9, 10, 11])] [nodeA strPA [] [121] (.os 2 0) (.os 1 0), .os 0 0] (hpTb false t d x [lattr strPads l]) ah =
    bif padE t d l != 0 then some (.ret [zeroV, I (padE t d l)], hpTb true t d x [lattr strPads l]) else some (.ret [(AV.d Ty.str [121]).pr ((I t).pr ((AV.os 3 0).pr (AV.d Ty.unit PUnit.unit))), I 0], hpTb true t d x [lattr strPads l] ++ [(3, .arr 3 i64T 0 false (padD d l))]) := by
  obtain ⟨n1, n2, _⟩ := ten_ok ht
  obtain ⟨_, h6, _⟩ := count_ok n2
  rw [pb_eq, decide_eq_true (show d.length ≤ 9223372036854775807 ∧ x.length ≤ 9223372036854775807 from ⟨hd, hx⟩), ht, n1, decide_eq_true (show d.length ≤ 9223372036854775807 from hd), n2, decide_eq_true (show d = d ∧ (0 : Int) = 0 ∧ ¬ (d = [] ∧ l = []) ∧ l.length ≤ 2147483648 from ⟨rfl, rfl, hne, hl⟩)]
  unfold padE
  cases ht1 : t != 1 with
  | true => cases t == 6 <;> rfl
  | false =>
    cases hn : numC (Int.ofNat (2 * d.length)) 0 65536 l with
    | false => cases t == 6 <;> rfl
    | true =>
      have hlen := (numC_in hn).2
      have hdn : padD d l ≠ [] := fun e => by
        have h0 := padD_len d l
        rw [e] at h0
        simp only [List.length_nil] at h0
        have hd0 : d = [] := List.eq_nil_of_length_eq_zero h0.symm
        refine hne ⟨hd0, List.eq_nil_of_length_eq_zero ?_⟩
        simp only [Int.ofNat_eq_natCast] at hlen
        omega
      rw [decide_eq_true (show (padD d l).length ≤ 9223372036854775807 by rw [padD_len]; exact hd), decide_eq_true (show padD d l ≠ [] ∧ (padD d l).length ≤ 65536 from ⟨hdn, by rw [padD_len]; omega⟩)]
      cases hc : countE (padD d l) != 0 with
      | true =>
        rw [show (bif false then (4 : Int) else bif true then countE (padD d l) else 4) = countE (padD d l) from rfl, hc]
        cases t == 6 <;> rfl
      | false =>
        rw [show (bif false then (4 : Int) else bif true then countE (padD d l) else 4) = countE (padD d l) from rfl, hc]
        cases t == 6 <;> rfl
noncomputable def gP0 : Env := g212.add 55 (treeE fun _ _ => .no)
theorem gP0_good : gP0.Good := g212_good.add (noE_ok _)
theorem p0_eq (t : Int) (d l x : List Int) : runC gP0 Tryz.f42 6 [(3, [2, 4, 6, 9, 10, 11])] [nodeA strPA [] [121] (.os 2 0) (.os 1 0), .os 0 0] (hpTb false t d x [lattr strPads l]) ah = bif decide (d.length ≤ 9223372036854775807 ∧ x.length ≤ 9223372036854775807) then  bif tenE t d x != 0 then some (AEnd.ret [(AV.d Ty.str []).pr ((I 0).pr (AV.nils.pr (AV.d Ty.unit PUnit.unit))), I 1], [(0, AObj.arr 25 Y0 0 false [(t, d, x, ())]), (1, AObj.arr 37 (Ty.str.pair ((i64T).pair ((i64T).pair ((i64T).pair (Ty.str.pair (Y0.pair ((i64T).slice.pair Ty.unit))))))) 0 false [([112, 97, 100, 115], 7, 0, 0, [], (0, [], [], ()), l, ())]), (2, AObj.arr 9 Ty.str 0 false [[120]])]) else none else none := by kernel_rfl
def pbL (t : Int) (d x l : List Int) : Tq :=
  .br (decide (x.length ≤ maxLen ∧ d.length ≤ maxLen ∧ l.length ≤ 2147483648)) (.br (tenE t d x != 0) (.leaf (.ret [zeroV, I 1]) (hpTb false t d x [lattr strPads l])) (.br (!decide (d = [] ∧ l = [])) (.br (padE t d l != 0) (.leaf (.ret [zeroV, I (padE t d l)]) (hpTb true t d x [lattr strPads l])) (.leaf (.ret [(AV.d Ty.str [121]).pr ((I t).pr ((AV.os 3 0).pr (AV.d Ty.unit PUnit.unit))), I 0]) (hpTb true t d x [lattr strPads l] ++ [(3, .arr 3 i64T 0 false (padD d l))]))) .no)) .no
def pbT : List AV → LHp → Tq
  | [n, .os 0 0], [(0, .arr 25 ((.pair (.int .i64) (.pair (.slice (.int .i64)) (.pair (.slice (.int .i64)) .unit)))) 0 false [(t, d, x, ())]), (1, .arr 37 ((.pair .str (.pair (.int .i64) (.pair (.int .i64) (.pair (.int .i64) (.pair .str (.pair (.pair (.int .i64) (.pair (.slice (.int .i64)) (.pair (.slice (.int .i64)) .unit))) (.pair (.slice (.int .i64)) .unit)))))))) 0 false [a]), (2, .arr 9 .str 0 false ins)] =>
    (match nodeP n with
    | some (op, nm, out, .os 2 0, .os 1 0) => gate (decide (op = strPA) && decide (nm = []) && decide (out = [121]) && decide (ins = [[120]]) && isL a strPads) (pbL t d x a.2.2.2.2.2.2.1)
    | _ => .no)
  | _, _ => .no
theorem pbT_ok : FnE.OK e0.P e0.gam 42 (treeE pbT) := by
  have h0 : FnE.OK e0.P e0.gam 42 (execFnC gP0 Tryz.f42 6 [(3, [2, 4, 6, 9, 10, 11])]) := execFnC_ok gP0_good hmix Tryz.func42 Tryz.call42 (by decide +kernel) rfl
  have h1 : FnE.OK e0.P e0.gam 42 (execFnC gPb Tryz.f42 6 [(3, [2, 4, 6, 9, 10, 11])]) := execFnC_ok gPb_good hmix Tryz.func42 Tryz.call42 (by decide +kernel) rfl
  refine ⟨fun _ _ _ => Tq.eq _ _, fun args hs ae hs' h => ?_⟩
  have h' : (pbT args hs).run ah = some (ae, hs') := h
  clear h
  unfold pbT at h'
  split at h'
  · rename_i t d x a ins
    split at h'
    · rename_i hn
      rw [nodeP_some hn]
      obtain ⟨hb, h2⟩ := gate_run h'
      clear h'
      simp only [Bool.and_eq_true, decide_eq_true_eq] at hb
      obtain ⟨⟨⟨⟨b1, b2⟩, b3⟩, b4⟩, b6⟩ := hb
      subst b1 b2 b3 b4
      obtain ⟨l, rfl⟩ := isL_eq b6
      change (pbL t d x l).run ah = _ at h2
      obtain ⟨hg, h3⟩ := Tq.br_no h2
      obtain ⟨c1, c2, c3⟩ := of_decide_eq_true hg
      change (bif tenE t d x != 0 then _ else _) = _ at h3
      cases ht : tenE t d x != 0 with
      | true =>
        rw [ht] at h3
        refine h0.okC ((p0_eq t d l x).trans (Eq.trans ?_ h3))
        rw [decide_eq_true (show d.length ≤ 9223372036854775807 ∧ x.length ≤ 9223372036854775807 from ⟨c2, c1⟩), ht]
        rfl
      | false =>
        rw [ht] at h3
        obtain ⟨hne, h4⟩ := Tq.br_no h3
        have hne' : ¬ (d = [] ∧ l = []) := of_decide_eq_false (by rw [Bool.not_eq_true'] at hne; exact hne)
        refine h1.okC ((pb_run c1 c2 c3 (by simpa using ht) hne').trans (Eq.trans ?_ h4))
        change _ = (bif padE t d l != 0 then _ else _)
        cases padE t d l != 0 <;> rfl
    · cases h'
  · cases h'
noncomputable def C_cor : Code := codeOf Tryz.f58
noncomputable def cf_cor : Cfg := ⟨54, 6, 0, [(9, [1, 10, 36, 37, 38])], true⟩
noncomputable def gCo : Env := g157.add 85 (treeE sstT)
theorem gCo_good : gCo.Good := g157_good.add sstT_ok
theorem cor_eqH (hl : Hl) (d : List Int) (q : Int) : runH gCo Tryz.f58 6 [(9, [1, 10, 36, 37, 38])] [9] hl [.d (.slice i64T) d, I q] [] ah = bif decide (d.length ≤ 9223372036854775807) then  bif countE d != 0 then some (AEnd.ret [AV.nils, I (countE d)], []) else  bif decide (q < 0) then some (AEnd.ret [AV.nils, I 1], []) else  bif decide (q ≥ countN d) then some (AEnd.ret [AV.nils, I 1], []) else  bif decide (d.length ≤ 9223372036854775807) then  bif countE d != 0 then (if 0 ≤ Int.ofNat d.length ∧ Int.ofNat d.length ≤ 4294967296 then some (List.replicate (Int.ofNat d.length).toNat 0) else none).bind fun v6 => hl (cL (cL (cR (cL (cR (cR (cR (cR (cR (cR C_cor)))))))))) _ { fr := mkFr 6 [(1, I q), (10, AV.os 0 0), (36, AV.nils), (37, I 0), (38, I 0)], hp := [(0, AObj.arr 3 (i64T) 0 false v6)], nx := 1 } (blkK 0 (seqH gCo cf_cor [9] hl (cR (cR (cR (cR (cR (cR (cR C_cor))))))) (endC Tryz.prog 0 Tryz.f58.results.toList ah))) else (if 0 ≤ Int.ofNat d.length ∧ Int.ofNat d.length ≤ 4294967296 then some (List.replicate (Int.ofNat d.length).toNat 0) else none).bind fun v6 => hl (cL (cL (cR (cL (cR (cR (cR (cR (cR (cR C_cor)))))))))) _ { fr := mkFr 6 [(1, I q), (10, AV.os 0 0), (36, AV.os 1 0), (37, I (Int.ofNat (strI d).length)), (38, I 0)], hp := [(0, AObj.arr 3 (i64T) 0 false v6), (1, AObj.arr 3 (i64T) 0 false (strI d))], nx := 2 } (blkK 0 (seqH gCo cf_cor [9] hl (cR (cR (cR (cR (cR (cR (cR C_cor))))))) (endC Tryz.prog 0 Tryz.f58.results.toList ah))) else none else none := by kernel_rfl
theorem cor_eq (d : List Int) (q : Int) : runC gCo Tryz.f58 6 [(9, [1, 10, 36, 37, 38])] [.d (.slice i64T) d, I q] [] ah = bif decide (d.length ≤ 9223372036854775807) then  bif countE d != 0 then some (AEnd.ret [AV.nils, I (countE d)], []) else  bif decide (q < 0) then some (AEnd.ret [AV.nils, I 1], []) else  bif decide (q ≥ countN d) then some (AEnd.ret [AV.nils, I 1], []) else  bif decide (d.length ≤ 9223372036854775807) then  bif countE d != 0 then (if 0 ≤ Int.ofNat d.length ∧ Int.ofNat d.length ≤ 4294967296 then some (List.replicate (Int.ofNat d.length).toNat 0) else none).bind fun v6 => (hlp gCo cf_cor) (cL (cL (cR (cL (cR (cR (cR (cR (cR (cR C_cor)))))))))) _ { fr := mkFr 6 [(1, I q), (10, AV.os 0 0), (36, AV.nils), (37, I 0), (38, I 0)], hp := [(0, AObj.arr 3 (i64T) 0 false v6)], nx := 1 } (blkK 0 (seqH gCo cf_cor [9] (hlp gCo cf_cor) (cR (cR (cR (cR (cR (cR (cR C_cor))))))) (endC Tryz.prog 0 Tryz.f58.results.toList ah))) else (if 0 ≤ Int.ofNat d.length ∧ Int.ofNat d.length ≤ 4294967296 then some (List.replicate (Int.ofNat d.length).toNat 0) else none).bind fun v6 => (hlp gCo cf_cor) (cL (cL (cR (cL (cR (cR (cR (cR (cR (cR C_cor)))))))))) _ { fr := mkFr 6 [(1, I q), (10, AV.os 0 0), (36, AV.os 1 0), (37, I (Int.ofNat (strI d).length)), (38, I 0)], hp := [(0, AObj.arr 3 (i64T) 0 false v6), (1, AObj.arr 3 (i64T) 0 false (strI d))], nx := 2 } (blkK 0 (seqH gCo cf_cor [9] (hlp gCo cf_cor) (cR (cR (cR (cR (cR (cR (cR C_cor))))))) (endC Tryz.prog 0 Tryz.f58.results.toList ah))) else none else none := runH_runC.trans (cor_eqH (hlp gCo cf_cor) d q)
noncomputable def C_rpt : Code := codeOf Tryz.f84
noncomputable def cf_rpt : Cfg := ⟨48, 6, 1, [(8, [7, 8])], true⟩
end Go.Proofs.XGT
namespace Go.Proofs.XGT
open Go.Vm Go
set_option maxRecDepth 100000
set_option maxHeartbeats 4000000
def stCr (q i : Int) (out S : List Int) : LSt := { fr := mkFr 6 [(1, I q), (10, AV.os 0 0), (36, AV.os 1 0), (37, I (Int.ofNat S.length)), (38, I i)], hp := [(0, AObj.arr 3 i64T 0 false out), (1, AObj.arr 3 i64T 0 false S)], nx := 2 }
theorem cor_stH (hl : Hl) (q i : Int) (out S : List Int) (n : Nat) {R : Type} (k : AEx → LSt → Option R) : lpH gCo cf_cor [9] hl (cL (cL (cR (cL (cR (cR (cR (cR (cR (cR C_cor)))))))))) (n + 1) (stCr q i out S) k = bif decide (i < Int.ofNat S.length) then (idx S i).bind fun v1 => (S[i.toNat]?).bind fun v2 => (if v2 = 0 then none else some (IntKind.i64.wrap (q.tdiv v2))).bind fun v3 => (idx out i).bind fun v4 => (setN out i.toNat v3).bind fun v5 => (if v2 = 0 then none else some (q.tmod v2)).bind fun v6 => lpH gCo cf_cor [9] hl (cL (cL (cR (cL (cR (cR (cR (cR (cR (cR C_cor)))))))))) n { fr := mkFr 6 [(1, I v6), (10, AV.os 0 0), (36, AV.os 1 0), (37, I (Int.ofNat S.length)), (38, I (IntKind.i64.wrap (i + 1)))], hp := [(0, AObj.arr 3 (i64T) 0 false v5), (1, AObj.arr 3 (i64T) 0 false S)], nx := 2 } k else k (AEx.exit 0) { fr := mkFr 6 [(1, I q), (10, AV.os 0 0), (36, AV.os 1 0), (37, I (Int.ofNat S.length)), (38, I i), (39, B false)], hp := [(0, AObj.arr 3 (i64T) 0 false out), (1, AObj.arr 3 (i64T) 0 false S)], nx := 2 } := by kernel_rfl
theorem cor_st (q i : Int) (out S : List Int) (n : Nat) {R : Type} (k : AEx → LSt → Option R) : lp gCo cf_cor (cL (cL (cR (cL (cR (cR (cR (cR (cR (cR C_cor)))))))))) (n + 1) (stCr q i out S) k = bif decide (i < Int.ofNat S.length) then (idx S i).bind fun v1 => (S[i.toNat]?).bind fun v2 => (if v2 = 0 then none else some (IntKind.i64.wrap (q.tdiv v2))).bind fun v3 => (idx out i).bind fun v4 => (setN out i.toNat v3).bind fun v5 => (if v2 = 0 then none else some (q.tmod v2)).bind fun v6 => lp gCo cf_cor (cL (cL (cR (cL (cR (cR (cR (cR (cR (cR C_cor)))))))))) n { fr := mkFr 6 [(1, I v6), (10, AV.os 0 0), (36, AV.os 1 0), (37, I (Int.ofNat S.length)), (38, I (IntKind.i64.wrap (i + 1)))], hp := [(0, AObj.arr 3 (i64T) 0 false v5), (1, AObj.arr 3 (i64T) 0 false S)], nx := 2 } k else k (AEx.exit 0) { fr := mkFr 6 [(1, I q), (10, AV.os 0 0), (36, AV.os 1 0), (37, I (Int.ofNat S.length)), (38, I i), (39, B false)], hp := [(0, AObj.arr 3 (i64T) 0 false out), (1, AObj.arr 3 (i64T) 0 false S)], nx := 2 } := by
  have h := cor_stH (hlp gCo cf_cor) q i out S n k
  simp only [lpH_lp] at h
  exact h
noncomputable def KCr : AEx → LSt → Option (AEnd × LHp) := (blkK 0 (seqH gCo cf_cor [9] (hlp gCo cf_cor) (cR (cR (cR (cR (cR (cR (cR C_cor))))))) (endC Tryz.prog 0 Tryz.f58.results.toList ah)))
theorem cor_ex (q i l : Int) (out S : List Int) : KCr (.exit 0) { fr := mkFr 6 [(1, I q), (10, AV.os 0 0), (36, AV.os 1 0), (37, I l), (38, I i), (39, B false)], hp := (stCr q i out S).hp, nx := 2 } = some (AEnd.ret [AV.os 0 0, I 0], [(0, AObj.arr 3 (i64T) 0 false out)]) := by kernel_rfl
def stRp (v n : Int) (out : List Int) : LSt := { fr := mkFr 6 [(7, AV.os 1 0), (8, I n)], hp := [(0, AObj.arr 2 i64T 0 false [v]), (1, AObj.arr 2 i64T 0 false out)], nx := 3 }
theorem bml_eq (q : Int) : runC g224 Tryz.f111 5 [] [.d (.int .u64) 1, .d (.int .u64) q] [] ah = some (AEnd.ret [AV.d (Ty.int IntKind.u64) (IntKind.u64.wrap (IntKind.u64.wrap (IntKind.u64.wrap (0 * q.fdiv 4294967296) + (IntKind.u64.wrap (Int.ofNat (0 * ((BitVec.ofInt 64 q &&& 4294967295#64).toNat % 18446744073709551616) % 18446744073709551616) + (Int.ofNat (1 * ((BitVec.ofInt 64 q &&& 4294967295#64).toNat % 18446744073709551616) % 18446744073709551616)).fdiv 4294967296)).fdiv 4294967296) + (IntKind.u64.wrap (Int.ofNat ((BitVec.ofInt 64 (IntKind.u64.wrap (Int.ofNat (0 * ((BitVec.ofInt 64 q &&& 4294967295#64).toNat % 18446744073709551616) % 18446744073709551616) + (Int.ofNat (1 * ((BitVec.ofInt 64 q &&& 4294967295#64).toNat % 18446744073709551616) % 18446744073709551616)).fdiv 4294967296)) &&& 4294967295#64).toNat % 18446744073709551616) + IntKind.u64.wrap (1 * q.fdiv 4294967296))).fdiv 4294967296)), AV.d (Ty.int IntKind.u64) (IntKind.u64.wrap (1 * q))], []) := by kernel_rfl
end Go.Proofs.XGT
namespace Go.Proofs.XGT
open Go.Vm Go
set_option maxRecDepth 100000
set_option maxHeartbeats 4000000
theorem cor_lp : ∀ (Dr : List Nat) (Cp Sp : List Int) (q n : Nat), (∀ x ∈ Dr, 1 ≤ x) → prodN Dr ≤ 65536 → q < prodN Dr → Sp.length = Cp.length → Cp.length + Dr.length ≤ 6 → Dr.length < n →
    lp gCo cf_cor (cL (cL (cR (cL (cR (cR (cR (cR (cR (cR C_cor)))))))))) n (stCr (q : Nat) (Cp.length : Nat) (Cp ++ List.replicate Dr.length 0) (Sp ++ ints (strN Dr))) KCr = some (.ret [.os 0 0, I 0], [(0, .arr 3 i64T 0 false (Cp ++ ints (dig Dr q)))])
  | [], Cp, Sp, q, n, _, _, _, hS, h6, hn => by
    obtain ⟨n, rfl⟩ : ∃ m', n = m' + 1 := ⟨n - 1, by omega⟩
    rw [show ints (strN []) = [] from rfl, show List.replicate ([] : List Nat).length (0 : Int) = [] from rfl, List.append_nil, List.append_nil, cor_st, decide_eq_false (show ¬ (((Cp.length : Nat) : Int) < Int.ofNat Sp.length) by simp only [Int.ofNat_eq_natCast]; omega), cond_false, show ints (dig [] q) = [] from rfl, List.append_nil]
    exact cor_ex _ _ _ _ _
  | d :: r, Cp, Sp, q, n, h1, h2, hq, hS, h6, hn => by
    obtain ⟨n, rfl⟩ : ∃ m', n = m' + 1 := ⟨n - 1, by omega⟩
    have o1 := h1 d (by simp)
    have o2 : ∀ x ∈ r, 1 ≤ x := fun x hx => h1 x (by simp [hx])
    have p1 := prodN_pos o2
    have h2' : d * prodN r ≤ 65536 := h2
    have hq' : q < d * prodN r := hq
    have p2 : prodN r ≤ d * prodN r := Nat.le_mul_of_pos_left _ o1
    have hqd : q / prodN r < d := Nat.div_lt_of_lt_mul (by rw [Nat.mul_comm]; exact hq')
    have hd6 : d ≤ d * prodN r := Nat.le_mul_of_pos_right _ p1
    simp only [List.length_cons] at h6 hn
    have key := cor_lp r (Cp ++ [((q / prodN r : Nat) : Int)]) (Sp ++ [((prodN r : Nat) : Int)]) (q % prodN r) n o2 (by omega) (Nat.mod_lt _ p1) (by rw [List.length_append, List.length_append, hS]; rfl) (by rw [List.length_append, List.length_singleton]; omega) (by omega)
    have eS : Sp ++ ints (strN (d :: r)) = Sp ++ ((prodN r : Nat) : Int) :: ints (strN r) := rfl
    have eO : Cp ++ List.replicate (d :: r).length (0 : Int) = Cp ++ (0 : Int) :: List.replicate r.length 0 := rfl
    have g1 : idx (Sp ++ ((prodN r : Nat) : Int) :: ints (strN r)) (Int.ofNat Cp.length) = some ((prodN r : Nat) : Int) := by rw [← hS]; exact mid_idx
    have g1' : (Sp ++ ((prodN r : Nat) : Int) :: ints (strN r))[(Int.ofNat Cp.length).toNat]? = some ((prodN r : Nat) : Int) := by rw [← hS]; exact mid_get
    have g2 : idx (Cp ++ (0 : Int) :: List.replicate r.length 0) (Int.ofNat Cp.length) = some 0 := mid_idx
    have g3 : setN (Cp ++ (0 : Int) :: List.replicate r.length 0) (Int.ofNat Cp.length).toNat ((q / prodN r : Nat) : Int) = some (Cp ++ ((q / prodN r : Nat) : Int) :: List.replicate r.length 0) := mid_set
    have w1 : IntKind.i64.wrap ((q : Int).tdiv ((prodN r : Nat) : Int)) = ((q / prodN r : Nat) : Int) := by
      rw [show (q : Int).tdiv ((prodN r : Nat) : Int) = ((q / prodN r : Nat) : Int) from rfl]
      clear key
      generalize q / prodN r = z at hqd ⊢
      exact wrap64 (by omega) (by omega)
    have w2 : IntKind.i64.wrap (Int.ofNat Cp.length + 1) = ((Cp.length + 1 : Nat) : Int) := by simp only [Int.ofNat_eq_natCast]; rw [wrap64 (by omega) (by omega)]; omega
    have hne : ¬ (((prodN r : Nat) : Int) = 0) := by omega
    rw [eS, eO, show ((Cp.length : Nat) : Int) = Int.ofNat Cp.length from rfl, cor_st, decide_eq_true (show Int.ofNat Cp.length < Int.ofNat (Sp ++ ((prodN r : Nat) : Int) :: ints (strN r)).length by rw [List.length_append, List.length_cons]; simp only [Int.ofNat_eq_natCast]; omega), cond_true, g1, Option.bind_some, g1', Option.bind_some, if_neg hne, Option.bind_some, g2, Option.bind_some, w1, g3, Option.bind_some, if_neg hne, Option.bind_some, w2, show (q : Int).tmod ((prodN r : Nat) : Int) = ((q % prodN r : Nat) : Int) from rfl]
    simp only [List.append_assoc, List.singleton_append, List.length_append, List.length_singleton] at key
    exact key
theorem cor_run {d : List Int} {q : Nat} (hc : countE d = 0) (hq : q < prodN (d.map Int.toNat)) : runC gCo Tryz.f58 6 [(9, [1, 10, 36, 37, 38])] [.d (.slice i64T) d, I q] [] ah = some (.ret [.os 0 0, I 0], [(0, .arr 3 i64T 0 false (ints (dig (d.map Int.toNat) q)))]) := by
  obtain ⟨_, h6, _, c4⟩ := count_ok hc
  obtain ⟨D, eD, eD2, o1, o2, o3⟩ := nat_dims hc
  rw [← eD2] at hq ⊢
  have hcn : countN d = (prodN D : Nat) := by rw [c4, eD, prodI_ints]
  have hf : fu = 18446744073709551616 := rfl
  rw [cor_eq, decide_eq_true (show d.length ≤ 9223372036854775807 by omega), hc, decide_eq_false (show ¬ ((q : Int) < 0) by omega), hcn, decide_eq_false (show ¬ ((q : Int) ≥ ((prodN D : Nat) : Int)) by omega), cond_true, show ((0 : Int) != 0) = false from rfl, cond_false, cond_false, cond_false, cond_true, cond_false]
  rw [if_pos (show 0 ≤ Int.ofNat d.length ∧ Int.ofNat d.length ≤ 4294967296 by simp only [Int.ofNat_eq_natCast]; omega), Option.bind_some]
  have key := cor_lp D [] [] q fu o1 o2 hq rfl (by rw [List.length_nil]; omega) (by omega)
  rw [List.nil_append, List.nil_append, List.nil_append] at key
  have e1 : List.replicate (Int.ofNat d.length).toNat (0 : Int) = List.replicate D.length 0 := by rw [eD, ints_len]; rfl
  have e2 : strI d = ints (strN D) := by rw [eD, strI_ints]
  rw [e1, e2]
  refine Eq.trans ?_ key
  kernel_rfl
def corT : List AV → LHp → Tq
  | [.d (.slice (.int .i64)) d, .d (.int .i64) q], [] => .br (decide (countE d = 0 ∧ 0 ≤ q ∧ q.toNat < prodN (d.map Int.toNat))) (.leaf (.ret [.os 0 0, I 0]) [(0, .arr 3 i64T 0 false (ints (dig (d.map Int.toNat) q.toNat)))]) .no
  | _, _ => .no
theorem corT_ok : FnE.OK e0.P e0.gam 58 (treeE corT) := by
  have h1 : FnE.OK e0.P e0.gam 58 (execFnC gCo Tryz.f58 6 [(9, [1, 10, 36, 37, 38])]) := execFnC_ok gCo_good hmix Tryz.func58 Tryz.call58 (by decide +kernel) rfl
  refine ⟨fun _ _ _ => Tq.eq _ _, fun args hs ae hs' h => ?_⟩
  have h' : (corT args hs).run ah = some (ae, hs') := h
  clear h
  unfold corT at h'
  split at h'
  · rename_i d q
    obtain ⟨hb, h2⟩ := Tq.br_no h'
    obtain ⟨c1, c2, c3⟩ := of_decide_eq_true hb
    cases h2
    obtain ⟨k, rfl⟩ := Int.eq_ofNat_of_zero_le c2
    rw [Int.toNat_natCast] at c3 ⊢
    exact h1.okC (cor_run c1 c3)
  · cases h'
end Go.Proofs.XGT
namespace Go.Proofs.XGT
open Go.Vm Go
set_option maxRecDepth 100000
set_option maxHeartbeats 4000000
theorem and_small (x : BitVec 64) : (x &&& 4294967295#64).toNat ≤ 4294967295 := by
  rw [BitVec.toNat_and]
  exact Nat.and_le_right
theorem fdiv_small {x : Int} (h0 : 0 ≤ x) (h1 : x < 4294967296) : x.fdiv 4294967296 = 0 := by
  rw [Int.fdiv_eq_ediv_of_nonneg _ (by decide)]
  exact Int.ediv_eq_zero_of_lt h0 h1
theorem bml_run {q : Int} (h0 : 0 ≤ q) (h1 : q ≤ 65536) : runC g224 Tryz.f111 5 [] [.d (.int .u64) 1, .d (.int .u64) q] [] ah = some (.ret [.d (.int .u64) 0, .d (.int .u64) q], []) := by
  have a1 := and_small (BitVec.ofInt 64 q)
  have e1 : q.fdiv 4294967296 = 0 := fdiv_small h0 (by omega)
  rw [bml_eq, e1]
  generalize (BitVec.ofInt 64 q &&& 4294967295#64).toNat = X at a1 ⊢
  have e2 : (Int.ofNat (1 * (X % 18446744073709551616) % 18446744073709551616)).fdiv 4294967296 = 0 := by
    rw [Nat.one_mul, Nat.mod_mod, Nat.mod_eq_of_lt (by omega)]
    exact fdiv_small (Int.natCast_nonneg _) (by simp only [Int.ofNat_eq_natCast]; omega)
  have e3 : 0 * (X % 18446744073709551616) % 18446744073709551616 = 0 := by rw [Nat.zero_mul]
  rw [e2, e3]
  have e4 : IntKind.u64.wrap (1 * q) = q := by
    rw [Int.one_mul]
    simp only [IntKind.wrap]
    simp [IntKind.bits, IntKind.signed]
    omega
  rw [e4]
  rfl
def bmlT : List AV → LHp → Tq
  | [.d (.int .u64) a, .d (.int .u64) q], [] => gate (decide (a = 1)) (.br (decide (0 ≤ q ∧ q ≤ 65536)) (.leaf (.ret [.d (.int .u64) 0, .d (.int .u64) q]) []) .no)
  | _, _ => .no
theorem bmlT_ok : FnE.OK e0.P e0.gam 111 (treeE bmlT) := by
  have h1 : FnE.OK e0.P e0.gam 111 (execFnC g224 Tryz.f111 5 []) := execFnC_ok g224_good hmix Tryz.func111 Tryz.call111 (by decide +kernel) rfl
  refine ⟨fun _ _ _ => Tq.eq _ _, fun args hs ae hs' h => ?_⟩
  have h' : (bmlT args hs).run ah = some (ae, hs') := h
  clear h
  unfold bmlT at h'
  split at h'
  · obtain ⟨ha, h3⟩ := gate_run h'
    obtain rfl := of_decide_eq_true ha
    obtain ⟨hb, h2⟩ := Tq.br_no h3
    obtain ⟨c2, c3⟩ := of_decide_eq_true hb
    cases h2
    exact h1.okC (bml_run c2 c3)
  · cases h'
noncomputable def gRp : Env := g225.add 111 (treeE bmlT)
theorem gRp_good : gRp.Good := g225_good.add bmlT_ok
theorem rp_eqH (hl : Hl) (v q : Int) : runH gRp Tryz.f84 6 [(8, [7, 8])] [8] hl [.os 0 0, I q] [(0, .arr 2 i64T 0 false [v])] ah = bif decide (q < 0) then none else  bif decide (0 ≤ IntKind.u64.wrap q ∧ IntKind.u64.wrap q ≤ 65536) then  bif decide (IntKind.u64.wrap q > 9223372036854775807) then none else (if 0 ≤ IntKind.i64.wrap (IntKind.u64.wrap q) ∧ IntKind.i64.wrap (IntKind.u64.wrap q) ≤ 4294967296 then some (List.replicate (IntKind.i64.wrap (IntKind.u64.wrap q)).toNat 0) else none).bind fun v3 => bif true && Nat.ble 1 v3.length then hl (cL (cL (cL (cR (cR (cR (cR (cR (cR C_rpt))))))))) _ { fr := mkFr 6 [(7, AV.os 1 0), (8, I (Int.ofNat (min 1 v3.length)))], hp := [(0, AObj.arr 2 (i64T) 0 false [v]), (1, AObj.arr 2 (i64T) 0 false (cpyL v3 0 v3.length [v]))], nx := 3 } (blkK 0 (seqH gRp cf_rpt [8] hl (cR (cR (cR (cR (cR (cR (cR C_rpt))))))) (endC Tryz.prog 1 Tryz.f84.results.toList ah))) else none else none := by kernel_rfl
theorem rp_eq (v q : Int) : runC gRp Tryz.f84 6 [(8, [7, 8])] [.os 0 0, I q] [(0, .arr 2 i64T 0 false [v])] ah = bif decide (q < 0) then none else  bif decide (0 ≤ IntKind.u64.wrap q ∧ IntKind.u64.wrap q ≤ 65536) then  bif decide (IntKind.u64.wrap q > 9223372036854775807) then none else (if 0 ≤ IntKind.i64.wrap (IntKind.u64.wrap q) ∧ IntKind.i64.wrap (IntKind.u64.wrap q) ≤ 4294967296 then some (List.replicate (IntKind.i64.wrap (IntKind.u64.wrap q)).toNat 0) else none).bind fun v3 => bif true && Nat.ble 1 v3.length then (hlp gRp cf_rpt) (cL (cL (cL (cR (cR (cR (cR (cR (cR C_rpt))))))))) _ { fr := mkFr 6 [(7, AV.os 1 0), (8, I (Int.ofNat (min 1 v3.length)))], hp := [(0, AObj.arr 2 (i64T) 0 false [v]), (1, AObj.arr 2 (i64T) 0 false (cpyL v3 0 v3.length [v]))], nx := 3 } (blkK 0 (seqH gRp cf_rpt [8] (hlp gRp cf_rpt) (cR (cR (cR (cR (cR (cR (cR C_rpt))))))) (endC Tryz.prog 1 Tryz.f84.results.toList ah))) else none else none := runH_runC.trans (rp_eqH (hlp gRp cf_rpt) v q)
theorem rp_stH (hl : Hl) (v c : Int) (out : List Int) (n : Nat) {R : Type} (k : AEx → LSt → Option R) : lpH gRp cf_rpt [8] hl (cL (cL (cL (cR (cR (cR (cR (cR (cR C_rpt))))))))) (n + 1) (stRp v c out) k = bif decide (c < Int.ofNat out.length) then (win out.length c (Int.ofNat out.length)).bind fun v1 => (win out.length 0 c).bind fun v2 => bif true && (v1.1 + v1.2).ble out.length then (match bif true && (v2.1 + v2.2).ble out.length then some (List.take v2.2 (List.drop v2.1 out)) else none with | none => none | some w4 => lpH gRp cf_rpt [8] hl (cL (cL (cL (cR (cR (cR (cR (cR (cR C_rpt))))))))) n { fr := mkFr 6 [(7, AV.os 1 0), (8, I (IntKind.i64.wrap (c + Int.ofNat (min w4.length v1.2))))], hp := [(0, AObj.arr 2 (i64T) 0 false [v]), (1, AObj.arr 2 (i64T) 0 false (cpyL out v1.1 v1.2 w4))], nx := 3 } k) else none else k (AEx.exit 0) { fr := mkFr 6 [(7, AV.os 1 0), (8, I c), (34, I c), (35, AV.os 1 0), (36, I (Int.ofNat out.length)), (37, B false)], hp := [(0, AObj.arr 2 (i64T) 0 false [v]), (1, AObj.arr 2 (i64T) 0 false out)], nx := 3 } := by kernel_rfl
theorem rp_st (v c : Int) (out : List Int) (n : Nat) {R : Type} (k : AEx → LSt → Option R) : lp gRp cf_rpt (cL (cL (cL (cR (cR (cR (cR (cR (cR C_rpt))))))))) (n + 1) (stRp v c out) k = bif decide (c < Int.ofNat out.length) then (win out.length c (Int.ofNat out.length)).bind fun v1 => (win out.length 0 c).bind fun v2 => bif true && (v1.1 + v1.2).ble out.length then (match bif true && (v2.1 + v2.2).ble out.length then some (List.take v2.2 (List.drop v2.1 out)) else none with | none => none | some w4 => lp gRp cf_rpt (cL (cL (cL (cR (cR (cR (cR (cR (cR C_rpt))))))))) n { fr := mkFr 6 [(7, AV.os 1 0), (8, I (IntKind.i64.wrap (c + Int.ofNat (min w4.length v1.2))))], hp := [(0, AObj.arr 2 (i64T) 0 false [v]), (1, AObj.arr 2 (i64T) 0 false (cpyL out v1.1 v1.2 w4))], nx := 3 } k) else none else k (AEx.exit 0) { fr := mkFr 6 [(7, AV.os 1 0), (8, I c), (34, I c), (35, AV.os 1 0), (36, I (Int.ofNat out.length)), (37, B false)], hp := [(0, AObj.arr 2 (i64T) 0 false [v]), (1, AObj.arr 2 (i64T) 0 false out)], nx := 3 } := by
  have h := rp_stH (hlp gRp cf_rpt) v c out n k
  simp only [lpH_lp] at h
  exact h
noncomputable def KRp2 : AEx → LSt → Option (AEnd × LHp) := (blkK 0 (seqH gRp cf_rpt [8] (hlp gRp cf_rpt) (cR (cR (cR (cR (cR (cR (cR C_rpt))))))) (endC Tryz.prog 1 Tryz.f84.results.toList ah)))
theorem rp_ex (v c l : Int) (out : List Int) : KRp2 (.exit 0) { fr := mkFr 6 [(7, AV.os 1 0), (8, I c), (34, I c), (35, AV.os 1 0), (36, I l), (37, B false)], hp := (stRp v c out).hp, nx := 3 } = some (AEnd.ret [AV.os 1 0], [(0, AObj.arr 2 (i64T) 0 false [v]), (1, AObj.arr 2 (i64T) 0 false out)]) := by kernel_rfl
theorem rep_step {v : Int} {N c : Nat} (h1 : 1 ≤ c) (h2 : c < N) : cpyL (List.replicate c v ++ List.replicate (N - c) (0 : Int)) c (N - c) (List.replicate c v) = List.replicate (c + min c (N - c)) v ++ List.replicate (N - (c + min c (N - c))) 0 := by
  have hL : (List.replicate c v ++ List.replicate (N - c) (0 : Int)).length = N := by simp; omega
  unfold cpyL
  have t1 : (List.replicate c v ++ List.replicate (N - c) (0 : Int)).take c = List.replicate c v := by rw [List.take_append_of_le_length (by simp), List.take_of_length_le (by simp)]
  have t2 : (List.replicate c v).take (N - c) = List.replicate (min c (N - c)) v := by rw [List.take_replicate, Nat.min_comm]
  rw [t1, t2, List.length_replicate, List.replicate_append_replicate]
  have t3 : (List.replicate c v ++ List.replicate (N - c) (0 : Int)).drop (c + min c (N - c)) = List.replicate (N - (c + min c (N - c))) 0 := by
    rw [List.drop_append, List.length_replicate, List.drop_of_length_le (by simp), List.nil_append, List.drop_replicate]
    congr 1
    omega
  rw [t3]
theorem rp_lp {v : Int} {N : Nat} (hN : N ≤ 65536) : ∀ (r c n : Nat), N - c ≤ r → 1 ≤ c → c ≤ N → r < n →
    lp gRp cf_rpt (cL (cL (cL (cR (cR (cR (cR (cR (cR C_rpt))))))))) n (stRp v (c : Nat) (List.replicate c v ++ List.replicate (N - c) 0)) KRp2 = some (.ret [.os 1 0], [(0, .arr 2 i64T 0 false [v]), (1, .arr 2 i64T 0 false (List.replicate N v))]) := by
  intro r
  induction r with
  | zero =>
    intro c n h0 h1 h2 hn
    obtain ⟨n, rfl⟩ : ∃ m', n = m' + 1 := ⟨n - 1, by omega⟩
    obtain rfl : c = N := by omega
    rw [Nat.sub_self, List.replicate_zero, List.append_nil, rp_st, decide_eq_false (show ¬ ((c : Int) < Int.ofNat (List.replicate c v).length) by rw [List.length_replicate]; simp only [Int.ofNat_eq_natCast]; omega), cond_false]
    exact rp_ex _ _ _ _
  | succ r ih =>
    intro c n h0 h1 h2 hn
    obtain ⟨n, rfl⟩ : ∃ m', n = m' + 1 := ⟨n - 1, by omega⟩
    rcases Nat.eq_or_lt_of_le h2 with rfl | hlt
    · rw [Nat.sub_self, List.replicate_zero, List.append_nil, rp_st, decide_eq_false (show ¬ ((c : Int) < Int.ofNat (List.replicate c v).length) by rw [List.length_replicate]; simp only [Int.ofNat_eq_natCast]; omega), cond_false]
      exact rp_ex _ _ _ _
    · have key := ih (c + min c (N - c)) n (by omega) (by omega) (by omega) (by omega)
      have hL : (List.replicate c v ++ List.replicate (N - c) (0 : Int)).length = N := by simp; omega
      have w1 : win N (c : Int) (Int.ofNat N) = some (c, N - c) := by
        unfold win
        rw [decide_eq_true (show (0 : Int) ≤ (c : Int) by omega), decide_eq_true (show (c : Int) < Int.ofNat N by simp only [Int.ofNat_eq_natCast]; omega), decide_eq_true (show Int.ofNat N ≤ (N : Int) from Int.le_refl _)]
        have : (Int.ofNat N - (c : Int)).toNat = N - c := by simp only [Int.ofNat_eq_natCast]; omega
        rw [this, Int.toNat_natCast]
        rfl
      have w2 : win N 0 (c : Int) = some (0, c) := by
        unfold win
        rw [decide_eq_true (show (0 : Int) ≤ 0 by omega), decide_eq_true (show (0 : Int) < (c : Int) by omega), decide_eq_true (show (c : Int) ≤ (N : Int) by omega)]
        have : ((c : Int) - 0).toNat = c := by omega
        rw [this]
        rfl
      have t1 : List.take c (List.drop 0 (List.replicate c v ++ List.replicate (N - c) (0 : Int))) = List.replicate c v := by rw [List.drop_zero, List.take_append_of_le_length (by simp), List.take_of_length_le (by simp)]
      have w3 : IntKind.i64.wrap ((c : Int) + Int.ofNat (min c (N - c))) = ((c + min c (N - c) : Nat) : Int) := by
        have hm : min c (N - c) ≤ c := Nat.min_le_left _ _
        generalize min c (N - c) = z at hm ⊢
        simp only [Int.ofNat_eq_natCast]
        rw [wrap64 (by omega) (by omega)]
        omega
      rw [rp_st, hL, decide_eq_true (show (c : Int) < Int.ofNat N by simp only [Int.ofNat_eq_natCast]; omega), cond_true, w1, Option.bind_some, w2, Option.bind_some]
      simp only
      rw [show (true && (c + (N - c)).ble N) = true from by rw [Bool.true_and]; exact Nat.ble_eq_true_of_le (by omega), show (true && (0 + c).ble N) = true from by rw [Bool.true_and]; exact Nat.ble_eq_true_of_le (by omega), cond_true, cond_true, t1]
      simp only
      rw [List.length_replicate, w3, rep_step h1 hlt]
      exact key
theorem rp_run {v : Int} {N : Nat} (h1 : 1 ≤ N) (hN : N ≤ 65536) : runC gRp Tryz.f84 6 [(8, [7, 8])] [.os 0 0, I N] [(0, .arr 2 i64T 0 false [v])] ah = some (.ret [.os 1 0], [(0, .arr 2 i64T 0 false [v]), (1, .arr 2 i64T 0 false (List.replicate N v))]) := by
  have hf : fu = 18446744073709551616 := rfl
  have key := rp_lp (v := v) hN (N - 1) 1 fu (Nat.le_refl _) (Nat.le_refl _) h1 (by omega)
  have u1 : IntKind.u64.wrap (N : Int) = (N : Int) := by
    simp only [IntKind.wrap]
    simp [IntKind.bits, IntKind.signed]
    omega
  have u2 : IntKind.i64.wrap (N : Int) = (N : Int) := wrap64 (by omega) (by omega)
  refine Eq.trans ?_ key
  refine (rp_eq v N).trans ?_
  have e1 : cpyL (List.replicate N (0 : Int)) 0 N [v] = List.replicate 1 v ++ List.replicate (N - 1) 0 := by
    unfold cpyL
    rw [List.take_zero, List.nil_append, List.take_of_length_le (by simp; omega), List.drop_replicate]
    have : 0 + min [v].length N = 1 := by simp only [List.length_singleton]; omega
    rw [this]
    rfl
  rw [decide_eq_false (show ¬ ((N : Int) < 0) by omega), cond_false, u1, decide_eq_true (show 0 ≤ (N : Int) ∧ (N : Int) ≤ 65536 by omega), cond_true, decide_eq_false (show ¬ ((N : Int) > 9223372036854775807) by omega), cond_false, u2, if_pos (by omega), Option.bind_some, Int.toNat_natCast, List.length_replicate, show (true && Nat.ble 1 N) = true from by rw [Bool.true_and]; exact Nat.ble_eq_true_of_le h1, cond_true, e1, show min 1 N = 1 from by omega]
  show _ = _
  kernel_rfl
def rptT : List AV → LHp → Tq
  | [.os 0 0, .d (.int .i64) q], [(0, .arr 2 (.int .i64) 0 false [v])] => .br (decide (1 ≤ q ∧ q ≤ 65536)) (.leaf (.ret [.os 1 0]) [(0, .arr 2 i64T 0 false [v]), (1, .arr 2 i64T 0 false (List.replicate q.toNat v))]) .no
  | _, _ => .no
theorem rptT_ok : FnE.OK e0.P e0.gam 84 (treeE rptT) := by
  have h1 : FnE.OK e0.P e0.gam 84 (execFnC gRp Tryz.f84 6 [(8, [7, 8])]) := execFnC_ok gRp_good hmix Tryz.func84 Tryz.call84 (by decide +kernel) rfl
  refine ⟨fun _ _ _ => Tq.eq _ _, fun args hs ae hs' h => ?_⟩
  have h' : (rptT args hs).run ah = some (ae, hs') := h
  clear h
  unfold rptT at h'
  split at h'
  · rename_i q v
    obtain ⟨hb, h2⟩ := Tq.br_no h'
    obtain ⟨c1, c2⟩ := of_decide_eq_true hb
    cases h2
    obtain ⟨k, rfl⟩ := Int.eq_ofNat_of_zero_le (Int.le_trans (by decide) c1)
    rw [Int.toNat_natCast]
    exact h1.okC (rp_run (Int.ofNat_le.1 c1) (Int.ofNat_le.1 c2))
  · cases h'
end Go.Proofs.XGT
namespace Go.Proofs.XGT
open Go.Vm Go
set_option maxRecDepth 100000
set_option maxHeartbeats 4000000
noncomputable def C_sso : Code := codeOf Tryz.f85
noncomputable def cf_sso : Cfg := ⟨43, 6, 1, [(7, [0, 6, 7, 22, 23])], true⟩
theorem sso_eqH (hl : Hl) (z : Bool) (d : List Int) : runH g156 Tryz.f85 6 [(7, [0, 6, 7, 22, 23])] [7] hl [.os 0 0] [(0, .arr 3 i64T 0 z d)] ah = bif decide (d.length ≤ 9223372036854775807) then  bif countE d != 0 then some (AEnd.ret [AV.nils, I (countE d)], [(0, AObj.arr 3 (i64T) 0 z d)]) else (if 0 ≤ Int.ofNat d.length ∧ Int.ofNat d.length ≤ 4294967296 then some (List.replicate (Int.ofNat d.length).toNat 0) else none).bind fun v2 => hl (cL (cL (cR (cL (cR (cR (cR (cR C_sso)))))))) _ { fr := mkFr 6 [(0, AV.os 0 0), (6, AV.os 1 0), (7, I 1), (22, I (Int.ofNat d.length)), (23, I 0)], hp := [(0, AObj.arr 3 (i64T) 0 z d), (1, AObj.arr 3 (i64T) 0 false v2)], nx := 3 } (blkK 0 (seqH g156 cf_sso [7] hl (cR (cR (cR (cR (cR C_sso))))) (endC Tryz.prog 1 Tryz.f85.results.toList ah))) else none := by kernel_rfl
theorem sso_eq (z : Bool) (d : List Int) : runC g156 Tryz.f85 6 [(7, [0, 6, 7, 22, 23])] [.os 0 0] [(0, .arr 3 i64T 0 z d)] ah = bif decide (d.length ≤ 9223372036854775807) then  bif countE d != 0 then some (AEnd.ret [AV.nils, I (countE d)], [(0, AObj.arr 3 (i64T) 0 z d)]) else (if 0 ≤ Int.ofNat d.length ∧ Int.ofNat d.length ≤ 4294967296 then some (List.replicate (Int.ofNat d.length).toNat 0) else none).bind fun v2 => (hlp g156 cf_sso) (cL (cL (cR (cL (cR (cR (cR (cR C_sso)))))))) _ { fr := mkFr 6 [(0, AV.os 0 0), (6, AV.os 1 0), (7, I 1), (22, I (Int.ofNat d.length)), (23, I 0)], hp := [(0, AObj.arr 3 (i64T) 0 z d), (1, AObj.arr 3 (i64T) 0 false v2)], nx := 3 } (blkK 0 (seqH g156 cf_sso [7] (hlp g156 cf_sso) (cR (cR (cR (cR (cR C_sso))))) (endC Tryz.prog 1 Tryz.f85.results.toList ah))) else none := runH_runC.trans (sso_eqH (hlp g156 cf_sso) z d)
def stSo (z : Bool) (d out : List Int) (n i : Int) : LSt := { fr := mkFr 6 [(0, AV.os 0 0), (6, AV.os 1 0), (7, I n), (22, I (Int.ofNat d.length)), (23, I i)], hp := [(0, AObj.arr 3 i64T 0 z d), (1, AObj.arr 3 i64T 0 false out)], nx := 3 }
theorem sso_stH (hl : Hl) (z : Bool) (d out : List Int) (n0 i : Int) (n : Nat) {R : Type} (k : AEx → LSt → Option R) : lpH g156 cf_sso [7] hl (cL (cL (cR (cL (cR (cR (cR (cR C_sso)))))))) (n + 1) (stSo z d out n0 i) k = bif decide (i < Int.ofNat d.length) then (idx out (IntKind.i64.wrap (IntKind.i64.wrap (Int.ofNat d.length - 1) - i))).bind fun v1 => (setN out (IntKind.i64.wrap (IntKind.i64.wrap (Int.ofNat d.length - 1) - i)).toNat n0).bind fun v2 => (idx d (IntKind.i64.wrap (IntKind.i64.wrap (Int.ofNat d.length - 1) - i))).bind fun v3 => (d[(IntKind.i64.wrap (IntKind.i64.wrap (Int.ofNat d.length - 1) - i)).toNat]?).bind fun v4 => lpH g156 cf_sso [7] hl (cL (cL (cR (cL (cR (cR (cR (cR C_sso)))))))) n { fr := mkFr 6 [(0, AV.os 0 0), (6, AV.os 1 0), (7, I (IntKind.i64.wrap (n0 * v4))), (22, I (Int.ofNat d.length)), (23, I (IntKind.i64.wrap (i + 1)))], hp := [(0, AObj.arr 3 (i64T) 0 z d), (1, AObj.arr 3 (i64T) 0 false v2)], nx := 3 } k else k (AEx.exit 0) { fr := mkFr 6 [(0, AV.os 0 0), (6, AV.os 1 0), (7, I n0), (22, I (Int.ofNat d.length)), (23, I i), (24, B false)], hp := [(0, AObj.arr 3 (i64T) 0 z d), (1, AObj.arr 3 (i64T) 0 false out)], nx := 3 } := by kernel_rfl
theorem sso_st (z : Bool) (d out : List Int) (n0 i : Int) (n : Nat) {R : Type} (k : AEx → LSt → Option R) : lp g156 cf_sso (cL (cL (cR (cL (cR (cR (cR (cR C_sso)))))))) (n + 1) (stSo z d out n0 i) k = bif decide (i < Int.ofNat d.length) then (idx out (IntKind.i64.wrap (IntKind.i64.wrap (Int.ofNat d.length - 1) - i))).bind fun v1 => (setN out (IntKind.i64.wrap (IntKind.i64.wrap (Int.ofNat d.length - 1) - i)).toNat n0).bind fun v2 => (idx d (IntKind.i64.wrap (IntKind.i64.wrap (Int.ofNat d.length - 1) - i))).bind fun v3 => (d[(IntKind.i64.wrap (IntKind.i64.wrap (Int.ofNat d.length - 1) - i)).toNat]?).bind fun v4 => lp g156 cf_sso (cL (cL (cR (cL (cR (cR (cR (cR C_sso)))))))) n { fr := mkFr 6 [(0, AV.os 0 0), (6, AV.os 1 0), (7, I (IntKind.i64.wrap (n0 * v4))), (22, I (Int.ofNat d.length)), (23, I (IntKind.i64.wrap (i + 1)))], hp := [(0, AObj.arr 3 (i64T) 0 z d), (1, AObj.arr 3 (i64T) 0 false v2)], nx := 3 } k else k (AEx.exit 0) { fr := mkFr 6 [(0, AV.os 0 0), (6, AV.os 1 0), (7, I n0), (22, I (Int.ofNat d.length)), (23, I i), (24, B false)], hp := [(0, AObj.arr 3 (i64T) 0 z d), (1, AObj.arr 3 (i64T) 0 false out)], nx := 3 } := by
  have h := sso_stH (hlp g156 cf_sso) z d out n0 i n k
  simp only [lpH_lp] at h
  exact h
noncomputable def KSo : AEx → LSt → Option (AEnd × LHp) := (blkK 0 (seqH g156 cf_sso [7] (hlp g156 cf_sso) (cR (cR (cR (cR (cR C_sso))))) (endC Tryz.prog 1 Tryz.f85.results.toList ah)))
theorem sso_ex (z : Bool) (d out : List Int) (n0 i : Int) : KSo (.exit 0) { fr := mkFr 6 [(0, AV.os 0 0), (6, AV.os 1 0), (7, I n0), (22, I (Int.ofNat d.length)), (23, I i), (24, B false)], hp := [(0, AObj.arr 3 i64T 0 z d), (1, AObj.arr 3 i64T 0 false out)], nx := 3 } = some (AEnd.ret [AV.os 1 0, I 0], [(0, AObj.arr 3 (i64T) 0 z d), (1, AObj.arr 3 (i64T) 0 false out)]) := by kernel_rfl
end Go.Proofs.XGT
namespace Go.Proofs.XGT
open Go.Vm Go
set_option maxRecDepth 100000
set_option maxHeartbeats 1000000
theorem sso_lp (z : Bool) {D : List Nat} (hD : ∀ x ∈ D, 1 ≤ x) (hP : prodN D ≤ 65536) (hl : D.length ≤ 6) : ∀ (r : Nat) (Dp Dr : List Nat) (n : Nat), Dp.length = r → D = Dp ++ Dr → r < n →
    lp g156 cf_sso (cL (cL (cR (cL (cR (cR (cR (cR C_sso)))))))) n (stSo z (ints D) (List.replicate r (0 : Int) ++ ints (strN Dr)) (prodN Dr : Nat) (Dr.length : Nat)) KSo = some (.ret [.os 1 0, I 0], [(0, .arr 3 i64T 0 z (ints D)), (1, .arr 3 i64T 0 false (ints (strN D)))]) := by
  intro r
  induction r with
  | zero =>
    intro Dp Dr n h1 h2 hn
    obtain ⟨n, rfl⟩ : ∃ m', n = m' + 1 := ⟨n - 1, by omega⟩
    cases Dp with
    | cons _ _ => cases h1
    | nil =>
      simp only [List.nil_append] at h2
      subst h2
      rw [sso_st, decide_eq_false (show ¬ (((D.length : Nat) : Int) < Int.ofNat (ints D).length) by rw [ints_len]; exact Int.lt_irrefl _), cond_false]
      exact sso_ex _ _ _ _ _
  | succ r ih =>
    intro Dp Dr n h1 h2 hn
    obtain ⟨n, rfl⟩ : ∃ m', n = m' + 1 := ⟨n - 1, by omega⟩
    rcases List.eq_nil_or_concat Dp with h0 | ⟨Dq, d, h0⟩
    · subst h0; cases h1
    · subst h0
      have hq : Dq.length = r := by simp at h1; exact h1
      have hDl : D.length = r + 1 + Dr.length := by rw [h2]; simp [hq]; omega
      have e2 : D = Dq ++ d :: Dr := by rw [h2]; simp
      have w0 : IntKind.i64.wrap (Int.ofNat (ints D).length - 1) = (r : Int) + Dr.length := by
        rw [ints_len, wrap64 (by simp only [Int.ofNat_eq_natCast]; omega) (by simp only [Int.ofNat_eq_natCast]; omega)]
        simp only [Int.ofNat_eq_natCast]
        omega
      have w1 : IntKind.i64.wrap (IntKind.i64.wrap (Int.ofNat (ints D).length - 1) - (Dr.length : Int)) = Int.ofNat r := by
        rw [w0, wrap64 (by omega) (by omega)]
        simp only [Int.ofNat_eq_natCast]
        omega
      have hlt : ((Dr.length : Nat) : Int) < Int.ofNat (ints D).length := by rw [ints_len]; simp only [Int.ofNat_eq_natCast]; omega
      have er : List.replicate (r + 1) (0 : Int) ++ ints (strN Dr) = List.replicate r (0 : Int) ++ (0 : Int) :: ints (strN Dr) := by
        rw [List.replicate_succ', List.append_assoc]
        rfl
      have g1 : idx (List.replicate r (0 : Int) ++ (0 : Int) :: ints (strN Dr)) (Int.ofNat r) = some 0 := by
        have := mid_idx (xs := List.replicate r (0 : Int)) (zs := ints (strN Dr)) (y := 0)
        rw [List.length_replicate] at this
        exact this
      have g2 : setN (List.replicate r (0 : Int) ++ (0 : Int) :: ints (strN Dr)) (Int.ofNat r).toNat (prodN Dr : Nat) = some (List.replicate r (0 : Int) ++ ints (strN (d :: Dr))) := by
        have := mid_set (xs := List.replicate r (0 : Int)) (zs := ints (strN Dr)) (y := 0) (v := ((prodN Dr : Nat) : Int))
        rw [List.length_replicate] at this
        exact this
      have g3 : idx (ints D) (Int.ofNat r) = some (d : Int) := by
        have := mid_idx (xs := ints Dq) (zs := ints Dr) (y := (d : Int))
        rw [ints_len, hq] at this
        rw [e2, show ints (Dq ++ d :: Dr) = ints Dq ++ (d : Int) :: ints Dr by unfold ints; rw [List.map_append, List.map_cons]]
        exact this
      have g4 : (ints D)[(Int.ofNat r).toNat]? = some (d : Int) := by
        have q := getV (l := ints D) (p := r) (by rw [ints_len]; omega)
        exact q.2.trans (q.1.symm.trans g3)
      have hpd : prodN (d :: Dr) ≤ 65536 := by
        refine Nat.le_trans ?_ hP
        rw [e2]
        exact prodN_last fun x hx => hD x (by rw [e2]; simp [hx])
      have hpd' : d * prodN Dr ≤ 65536 := hpd
      have w2 : IntKind.i64.wrap (((prodN Dr : Nat) : Int) * (d : Int)) = ((prodN (d :: Dr) : Nat) : Int) := by
        rw [← Int.natCast_mul, show prodN (d :: Dr) = d * prodN Dr from rfl, Nat.mul_comm, wrap64 (by omega) (by omega)]
      have w3 : IntKind.i64.wrap ((Dr.length : Int) + 1) = (((d :: Dr).length : Nat) : Int) := by
        rw [wrap64 (by omega) (by omega), List.length_cons]
        omega
      rw [sso_st, decide_eq_true hlt, cond_true, w1, er, g1, Option.bind_some, g2, Option.bind_some, g3, Option.bind_some, g4, Option.bind_some, w2, w3]
      exact ih Dq (d :: Dr) n hq e2 (by omega)
theorem sso_run {z : Bool} {d : List Int} (hl : d.length ≤ maxLen) : runC g156 Tryz.f85 6 [(7, [0, 6, 7, 22, 23])] [.os 0 0] [(0, .arr 3 i64T 0 z d)] ah =
    bif countE d != 0 then some (.ret [.nils, I (countE d)], [(0, .arr 3 i64T 0 z d)]) else some (.ret [.os 1 0, I 0], [(0, .arr 3 i64T 0 z d), (1, .arr 3 i64T 0 false (strI d))]) := by
  refine (sso_eq z d).trans ?_
  rw [decide_eq_true (show d.length ≤ 9223372036854775807 from hl), cond_true]
  cases hc : countE d != 0 with
  | true => rfl
  | false =>
    have h0 : countE d = 0 := by simpa using hc
    obtain ⟨D, rfl, eD, h1, h2, h3⟩ := nat_dims h0
    have hf : fu = 18446744073709551616 := rfl
    rw [cond_false, cond_false, if_pos (show 0 ≤ Int.ofNat (ints D).length ∧ Int.ofNat (ints D).length ≤ 4294967296 by rw [ints_len]; simp only [Int.ofNat_eq_natCast]; omega), Option.bind_some]
    have key := sso_lp z h1 h2 h3 D.length D [] fu rfl (by simp) (by omega)
    rw [show (strN ([] : List Nat)) = [] from rfl, show ints [] = [] from rfl, List.append_nil] at key
    unfold strI
    rw [← eD, show (Int.ofNat (ints D).length).toNat = D.length by rw [ints_len]; rfl]
    exact key
def ssoT : List AV → LHp → Tq
  | [.os 0 0], [(0, .arr 3 (.int .i64) 0 z d)] => .br (decide (d.length ≤ maxLen)) (.br (countE d != 0) (.leaf (.ret [.nils, I (countE d)]) [(0, .arr 3 i64T 0 z d)]) (.leaf (.ret [.os 1 0, I 0]) [(0, .arr 3 i64T 0 z d), (1, .arr 3 i64T 0 false (strI d))])) .no
  | _, _ => .no
theorem ssoT_ok : FnE.OK e0.P e0.gam 85 (treeE ssoT) := by
  have h1 : FnE.OK e0.P e0.gam 85 (execFnC g156 Tryz.f85 6 [(7, [0, 6, 7, 22, 23])]) := y85_ok
  refine ⟨fun _ _ _ => Tq.eq _ _, fun args hs ae hs' h => ?_⟩
  have h' : (ssoT args hs).run ah = some (ae, hs') := h
  clear h
  unfold ssoT at h'
  split at h'
  · obtain ⟨hl, h2⟩ := Tq.br_no h'
    exact h1.okC ((sso_run (of_decide_eq_true hl)).trans h2)
  · cases h'
end Go.Proofs.XGT
namespace Go.Proofs.XGT
open Go.Vm Go
set_option maxRecDepth 100000
set_option maxHeartbeats 4000000
noncomputable def C_mpx : Code := codeOf Tryz.f51
noncomputable def cf_mpx : Cfg := ⟨79, 7, 3, [(6, [4, 7, 10, 11, 37, 38, 39]), (11, [4, 7, 10, 11, 14, 15, 16, 37, 38, 39, 52, 53])], true⟩
noncomputable def gPx : Env 
  := ((g226.add 58 (treeE corT)).add 84 (treeE rptT)).add 85 (treeE ssoT)
theorem gPx_good : gPx.Good := ((g226_good.add corT_ok).add rptT_ok).add ssoT_ok
def hpPx (y : Bool) (l nd : List Int) : LHp := [(0, .arr 3 i64T 0 y nd), (1, .arr 37 (Y1) 0 true [lattr strPads l]), (2, .arr 9 .str 0 false [[120]])]
theorem px_eqH (hl : Hl) (t : Int) (d x : List Int) (p : Int) (l nd : List Int) : runH gPx Tryz.f51 7 [(6, [4, 7, 10, 11, 37, 38, 39]), (11, [4, 7, 10, 11, 14, 15, 16, 37, 38, 39, 52, 53])] [6, 11] hl [nodeA strPA [] [121] (.os 2 0) (.os 1 0), .d (Y0) (t, d, x, ()), .os 0 0] (hpPx false (p :: l) nd) ah = (app [] (p :: l)).bind fun v0 => bif decide (nd.length ≤ 9223372036854775807) then  bif decide (1 ≤ countN nd ∧ countN nd ≤ 65536) then  bif decide (nd.length ≤ 9223372036854775807) then  bif countE nd != 0 then hl (cL (cL (cR (cL (cR (cR (cR (cR (cR C_mpx))))))))) _ { fr := mkFr 7 [(4, AV.op 3 [] 0), (7, AV.os 4 0), (10, AV.os 5 0), (11, AV.nils), (37, AV.d (i64T).slice x), (38, I (Int.ofNat x.length)), (39, I 0)], hp := [(0, AObj.arr 3 (i64T) 0 false nd), (1, AObj.arr 37 (Ty.str.pair ((i64T).pair ((i64T).pair ((i64T).pair (Ty.str.pair (Y0.pair ((i64T).slice.pair Ty.unit))))))) 0 true [([112, 97, 100, 115], 7, 0, 0, [], (0, [], [], ()), p :: l, ())]), (2, AObj.arr 9 Ty.str 0 false [[120]]), (3, AObj.box (AV.d Y0 (t, d, x, ()))), (4, AObj.arr 2 (i64T) 0 false v0), (5, AObj.arr 2 (i64T) 0 false (List.replicate (countN nd).toNat 0))], nx := 9 } (blkK 0 (seqH gPx cf_mpx [6, 11] hl (cR (cR (cR (cR (cR (cR C_mpx)))))) (endC Tryz.prog 3 Tryz.f51.results.toList ah))) else hl (cL (cL (cR (cL (cR (cR (cR (cR (cR C_mpx))))))))) _ { fr := mkFr 7 [(4, AV.op 3 [] 0), (7, AV.os 4 0), (10, AV.os 5 0), (11, AV.os 6 0), (37, AV.d (i64T).slice x), (38, I (Int.ofNat x.length)), (39, I 0)], hp := [(0, AObj.arr 3 (i64T) 0 false nd), (1, AObj.arr 37 (Ty.str.pair ((i64T).pair ((i64T).pair ((i64T).pair (Ty.str.pair (Y0.pair ((i64T).slice.pair Ty.unit))))))) 0 true [([112, 97, 100, 115], 7, 0, 0, [], (0, [], [], ()), p :: l, ())]), (2, AObj.arr 9 Ty.str 0 false [[120]]), (3, AObj.box (AV.d Y0 (t, d, x, ()))), (4, AObj.arr 2 (i64T) 0 false v0), (5, AObj.arr 2 (i64T) 0 false (List.replicate (countN nd).toNat 0)), (6, AObj.arr 3 (i64T) 0 false (strI nd))], nx := 10 } (blkK 0 (seqH gPx cf_mpx [6, 11] hl (cR (cR (cR (cR (cR (cR C_mpx)))))) (endC Tryz.prog 3 Tryz.f51.results.toList ah))) else none else none else none := by kernel_rfl
theorem px_eq (t : Int) (d x : List Int) (p : Int) (l nd : List Int) : runC gPx Tryz.f51 7 [(6, [4, 7, 10, 11, 37, 38, 39]), (11, [4, 7, 10, 11, 14, 15, 16, 37, 38, 39, 52, 53])] [nodeA strPA [] [121] (.os 2 0) (.os 1 0), .d (Y0) (t, d, x, ()), .os 0 0] (hpPx false (p :: l) nd) ah = (app [] (p :: l)).bind fun v0 => bif decide (nd.length ≤ 9223372036854775807) then  bif decide (1 ≤ countN nd ∧ countN nd ≤ 65536) then  bif decide (nd.length ≤ 9223372036854775807) then  bif countE nd != 0 then (hlp gPx cf_mpx) (cL (cL (cR (cL (cR (cR (cR (cR (cR C_mpx))))))))) _ { fr := mkFr 7 [(4, AV.op 3 [] 0), (7, AV.os 4 0), (10, AV.os 5 0), (11, AV.nils), (37, AV.d (i64T).slice x), (38, I (Int.ofNat x.length)), (39, I 0)], hp := [(0, AObj.arr 3 (i64T) 0 false nd), (1, AObj.arr 37 (Ty.str.pair ((i64T).pair ((i64T).pair ((i64T).pair (Ty.str.pair (Y0.pair ((i64T).slice.pair Ty.unit))))))) 0 true [([112, 97, 100, 115], 7, 0, 0, [], (0, [], [], ()), p :: l, ())]), (2, AObj.arr 9 Ty.str 0 false [[120]]), (3, AObj.box (AV.d Y0 (t, d, x, ()))), (4, AObj.arr 2 (i64T) 0 false v0), (5, AObj.arr 2 (i64T) 0 false (List.replicate (countN nd).toNat 0))], nx := 9 } (blkK 0 (seqH gPx cf_mpx [6, 11] (hlp gPx cf_mpx) (cR (cR (cR (cR (cR (cR C_mpx)))))) (endC Tryz.prog 3 Tryz.f51.results.toList ah))) else (hlp gPx cf_mpx) (cL (cL (cR (cL (cR (cR (cR (cR (cR C_mpx))))))))) _ { fr := mkFr 7 [(4, AV.op 3 [] 0), (7, AV.os 4 0), (10, AV.os 5 0), (11, AV.os 6 0), (37, AV.d (i64T).slice x), (38, I (Int.ofNat x.length)), (39, I 0)], hp := [(0, AObj.arr 3 (i64T) 0 false nd), (1, AObj.arr 37 (Ty.str.pair ((i64T).pair ((i64T).pair ((i64T).pair (Ty.str.pair (Y0.pair ((i64T).slice.pair Ty.unit))))))) 0 true [([112, 97, 100, 115], 7, 0, 0, [], (0, [], [], ()), p :: l, ())]), (2, AObj.arr 9 Ty.str 0 false [[120]]), (3, AObj.box (AV.d Y0 (t, d, x, ()))), (4, AObj.arr 2 (i64T) 0 false v0), (5, AObj.arr 2 (i64T) 0 false (List.replicate (countN nd).toNat 0)), (6, AObj.arr 3 (i64T) 0 false (strI nd))], nx := 10 } (blkK 0 (seqH gPx cf_mpx [6, 11] (hlp gPx cf_mpx) (cR (cR (cR (cR (cR (cR C_mpx)))))) (endC Tryz.prog 3 Tryz.f51.results.toList ah))) else none else none else none := runH_runC.trans (px_eqH (hlp gPx cf_mpx) t d x p l nd)
end Go.Proofs.XGT
namespace Go.Proofs.XGT
open Go.Vm Go
set_option maxRecDepth 100000
set_option maxHeartbeats 4000000
def hpPy (l nd : List Int) (t : Int) (d x w o s : List Int) : LHp := [(0, .arr 3 i64T 0 false nd), (1, .arr 37 (Y1) 0 true [lattr strPads l]), (2, .arr 9 .str 0 false [[120]]), (3, AObj.box (AV.d (Y0) (t, d, x, ()))), (4, .arr 2 i64T 0 false w), (5, .arr 2 i64T 0 false o), (6, .arr 3 i64T 0 false s)]
def stPx (l nd : List Int) (t : Int) (d x w o s : List Int) (nx : Nat) (i : Int) : LSt := { fr := mkFr 7 [(4, AV.op 3 [] 0), (7, AV.os 4 0), (10, AV.os 5 0), (11, AV.os 6 0), (37, AV.d (i64T).slice x), (38, I (Int.ofNat x.length)), (39, I i)], hp := hpPy l nd t d x w o s, nx := nx }
theorem px_stH (hl : Hl) (l nd : List Int) (t : Int) (d x w o s : List Int) (i : Int) (n : Nat) {R : Type} (k : AEx → LSt → Option R) : lpH gPx cf_mpx [6, 11] hl (cL (cL (cR (cL (cR (cR (cR (cR (cR C_mpx))))))))) (n + 1) (stPx l nd t d x w o s 10 i) k = bif decide (i < Int.ofNat x.length) then (idx x i).bind fun v1 => bif decide (countE d = 0 ∧ 0 ≤ i ∧ i.toNat < prodN (List.map Int.toNat d)) then hl (cL (cL (cR (cL (cR (cR (cR (cL (cL (cR (cR (cL (cL (cR (cL (cR (cR (cR (cR (cR C_mpx)))))))))))))))))))) _ { fr := mkFr 7 [(4, AV.op 3 [] 0), (7, AV.os 4 0), (10, AV.os 5 0), (11, AV.os 6 0), (14, I v1), (15, I 0), (16, AV.os 7 0), (37, AV.d (i64T).slice x), (38, I (Int.ofNat x.length)), (39, I i), (52, I (Int.ofNat (ints (dig (List.map Int.toNat d) i.toNat)).length)), (53, I 0)], hp := [(0, AObj.arr 3 (i64T) 0 false nd), (1, AObj.arr 37 (Ty.str.pair ((i64T).pair ((i64T).pair ((i64T).pair (Ty.str.pair (Y0.pair ((i64T).slice.pair Ty.unit))))))) 0 true [([112, 97, 100, 115], 7, 0, 0, [], (0, [], [], ()), l, ())]), (2, AObj.arr 9 Ty.str 0 false [[120]]), (3, AObj.box (AV.d Y0 (t, d, x, ()))), (4, AObj.arr 2 (i64T) 0 false w), (5, AObj.arr 2 (i64T) 0 false o), (6, AObj.arr 3 (i64T) 0 false s), (7, AObj.arr 3 (i64T) 0 false (ints (dig (List.map Int.toNat d) i.toNat)))], nx := 11 } (blkK 2 (seqH gPx cf_mpx [6, 11] hl (cR (cR (cR (cR (cL (cL (cR (cR (cL (cL (cR (cL (cR (cR (cR (cR (cR C_mpx))))))))))))))))) (blkK 1 (seqH gPx cf_mpx [6, 11] hl (cR (cR (cR (cL (cL (cR (cL (cR (cR (cR (cR (cR C_mpx)))))))))))) (nxtH gPx cf_mpx [6, 11] hl (cL (cL (cR (cL (cR (cR (cR (cR (cR C_mpx))))))))) n k))))) else none else k (AEx.exit 0) { fr := mkFr 7 [(4, AV.op 3 [] 0), (7, AV.os 4 0), (10, AV.os 5 0), (11, AV.os 6 0), (37, AV.d (i64T).slice x), (38, I (Int.ofNat x.length)), (39, I i), (40, B false)], hp := [(0, AObj.arr 3 (i64T) 0 false nd), (1, AObj.arr 37 (Ty.str.pair ((i64T).pair ((i64T).pair ((i64T).pair (Ty.str.pair (Y0.pair ((i64T).slice.pair Ty.unit))))))) 0 true [([112, 97, 100, 115], 7, 0, 0, [], (0, [], [], ()), l, ())]), (2, AObj.arr 9 Ty.str 0 false [[120]]), (3, AObj.box (AV.d Y0 (t, d, x, ()))), (4, AObj.arr 2 (i64T) 0 false w), (5, AObj.arr 2 (i64T) 0 false o), (6, AObj.arr 3 (i64T) 0 false s)], nx := 10 } := by kernel_rfl
theorem px_st (l nd : List Int) (t : Int) (d x w o s : List Int) (i : Int) (n : Nat) {R : Type} (k : AEx → LSt → Option R) : lp gPx cf_mpx (cL (cL (cR (cL (cR (cR (cR (cR (cR C_mpx))))))))) (n + 1) (stPx l nd t d x w o s 10 i) k = bif decide (i < Int.ofNat x.length) then (idx x i).bind fun v1 => bif decide (countE d = 0 ∧ 0 ≤ i ∧ i.toNat < prodN (List.map Int.toNat d)) then (hlp gPx cf_mpx) (cL (cL (cR (cL (cR (cR (cR (cL (cL (cR (cR (cL (cL (cR (cL (cR (cR (cR (cR (cR C_mpx)))))))))))))))))))) _ { fr := mkFr 7 [(4, AV.op 3 [] 0), (7, AV.os 4 0), (10, AV.os 5 0), (11, AV.os 6 0), (14, I v1), (15, I 0), (16, AV.os 7 0), (37, AV.d (i64T).slice x), (38, I (Int.ofNat x.length)), (39, I i), (52, I (Int.ofNat (ints (dig (List.map Int.toNat d) i.toNat)).length)), (53, I 0)], hp := [(0, AObj.arr 3 (i64T) 0 false nd), (1, AObj.arr 37 (Ty.str.pair ((i64T).pair ((i64T).pair ((i64T).pair (Ty.str.pair (Y0.pair ((i64T).slice.pair Ty.unit))))))) 0 true [([112, 97, 100, 115], 7, 0, 0, [], (0, [], [], ()), l, ())]), (2, AObj.arr 9 Ty.str 0 false [[120]]), (3, AObj.box (AV.d Y0 (t, d, x, ()))), (4, AObj.arr 2 (i64T) 0 false w), (5, AObj.arr 2 (i64T) 0 false o), (6, AObj.arr 3 (i64T) 0 false s), (7, AObj.arr 3 (i64T) 0 false (ints (dig (List.map Int.toNat d) i.toNat)))], nx := 11 } (blkK 2 (seqH gPx cf_mpx [6, 11] (hlp gPx cf_mpx) (cR (cR (cR (cR (cL (cL (cR (cR (cL (cL (cR (cL (cR (cR (cR (cR (cR C_mpx))))))))))))))))) (blkK 1 (seqH gPx cf_mpx [6, 11] (hlp gPx cf_mpx) (cR (cR (cR (cL (cL (cR (cL (cR (cR (cR (cR (cR C_mpx)))))))))))) (nxtH gPx cf_mpx [6, 11] (hlp gPx cf_mpx) (cL (cL (cR (cL (cR (cR (cR (cR (cR C_mpx))))))))) n k))))) else none else k (AEx.exit 0) { fr := mkFr 7 [(4, AV.op 3 [] 0), (7, AV.os 4 0), (10, AV.os 5 0), (11, AV.os 6 0), (37, AV.d (i64T).slice x), (38, I (Int.ofNat x.length)), (39, I i), (40, B false)], hp := [(0, AObj.arr 3 (i64T) 0 false nd), (1, AObj.arr 37 (Ty.str.pair ((i64T).pair ((i64T).pair ((i64T).pair (Ty.str.pair (Y0.pair ((i64T).slice.pair Ty.unit))))))) 0 true [([112, 97, 100, 115], 7, 0, 0, [], (0, [], [], ()), l, ())]), (2, AObj.arr 9 Ty.str 0 false [[120]]), (3, AObj.box (AV.d Y0 (t, d, x, ()))), (4, AObj.arr 2 (i64T) 0 false w), (5, AObj.arr 2 (i64T) 0 false o), (6, AObj.arr 3 (i64T) 0 false s)], nx := 10 } := by
  have h := px_stH (hlp gPx cf_mpx) l nd t d x w o s i n k
  simp only [lpH_lp] at h
  exact h
def hpPz (l nd : List Int) (t : Int) (d x w o s c : List Int) : LHp := hpPy l nd t d x w o s ++ [(7, .arr 3 i64T 0 false c)]
def stPz (l nd : List Int) (t : Int) (d x w o s c : List Int) (nx : Nat) (i v at' k : Int) : LSt := { fr := mkFr 7 [(4, AV.op 3 [] 0), (7, AV.os 4 0), (10, AV.os 5 0), (11, AV.os 6 0), (14, I v), (15, I at'), (16, AV.os 7 0), (37, AV.d (i64T).slice x), (38, I (Int.ofNat x.length)), (39, I i), (52, I (Int.ofNat c.length)), (53, I k)], hp := hpPz l nd t d x w o s c, nx := nx }
theorem pz_stH (hl : Hl) (l nd : List Int) (t : Int) (d x w o s c : List Int) (i v a j : Int) (n : Nat) {R : Type} (k : AEx → LSt → Option R) : lpH gPx cf_mpx [6, 11] hl (cL (cL (cR (cL (cR (cR (cR (cL (cL (cR (cR (cL (cL (cR (cL (cR (cR (cR (cR (cR C_mpx)))))))))))))))))))) (n + 1) (stPz l nd t d x w o s c 11 i v a j) k = bif decide (j < Int.ofNat c.length) then (idx c j).bind fun v1 => (c[j.toNat]?).bind fun v2 => (idx w j).bind fun v3 => (w[j.toNat]?).bind fun v4 => (idx s j).bind fun v5 => (s[j.toNat]?).bind fun v6 => lpH gPx cf_mpx [6, 11] hl (cL (cL (cR (cL (cR (cR (cR (cL (cL (cR (cR (cL (cL (cR (cL (cR (cR (cR (cR (cR C_mpx)))))))))))))))))))) n { fr := mkFr 7 [(4, AV.op 3 [] 0), (7, AV.os 4 0), (10, AV.os 5 0), (11, AV.os 6 0), (14, I v), (15, I (IntKind.i64.wrap (a + IntKind.i64.wrap (IntKind.i64.wrap (v2 + v4) * v6)))), (16, AV.os 7 0), (37, AV.d (i64T).slice x), (38, I (Int.ofNat x.length)), (39, I i), (52, I (Int.ofNat c.length)), (53, I (IntKind.i64.wrap (j + 1)))], hp := [(0, AObj.arr 3 (i64T) 0 false nd), (1, AObj.arr 37 (Ty.str.pair ((i64T).pair ((i64T).pair ((i64T).pair (Ty.str.pair (Y0.pair ((i64T).slice.pair Ty.unit))))))) 0 true [([112, 97, 100, 115], 7, 0, 0, [], (0, [], [], ()), l, ())]), (2, AObj.arr 9 Ty.str 0 false [[120]]), (3, AObj.box (AV.d Y0 (t, d, x, ()))), (4, AObj.arr 2 (i64T) 0 false w), (5, AObj.arr 2 (i64T) 0 false o), (6, AObj.arr 3 (i64T) 0 false s), (7, AObj.arr 3 (i64T) 0 false c)], nx := 11 } k else k (AEx.exit 2) { fr := mkFr 7 [(4, AV.op 3 [] 0), (7, AV.os 4 0), (10, AV.os 5 0), (11, AV.os 6 0), (14, I v), (15, I a), (16, AV.os 7 0), (37, AV.d (i64T).slice x), (38, I (Int.ofNat x.length)), (39, I i), (52, I (Int.ofNat c.length)), (53, I j), (54, B false)], hp := [(0, AObj.arr 3 (i64T) 0 false nd), (1, AObj.arr 37 (Ty.str.pair ((i64T).pair ((i64T).pair ((i64T).pair (Ty.str.pair (Y0.pair ((i64T).slice.pair Ty.unit))))))) 0 true [([112, 97, 100, 115], 7, 0, 0, [], (0, [], [], ()), l, ())]), (2, AObj.arr 9 Ty.str 0 false [[120]]), (3, AObj.box (AV.d Y0 (t, d, x, ()))), (4, AObj.arr 2 (i64T) 0 false w), (5, AObj.arr 2 (i64T) 0 false o), (6, AObj.arr 3 (i64T) 0 false s), (7, AObj.arr 3 (i64T) 0 false c)], nx := 11 } := by kernel_rfl
theorem pz_st (l nd : List Int) (t : Int) (d x w o s c : List Int) (i v a j : Int) (n : Nat) {R : Type} (k : AEx → LSt → Option R) : lp gPx cf_mpx (cL (cL (cR (cL (cR (cR (cR (cL (cL (cR (cR (cL (cL (cR (cL (cR (cR (cR (cR (cR C_mpx)))))))))))))))))))) (n + 1) (stPz l nd t d x w o s c 11 i v a j) k = bif decide (j < Int.ofNat c.length) then (idx c j).bind fun v1 => (c[j.toNat]?).bind fun v2 => (idx w j).bind fun v3 => (w[j.toNat]?).bind fun v4 => (idx s j).bind fun v5 => (s[j.toNat]?).bind fun v6 => lp gPx cf_mpx (cL (cL (cR (cL (cR (cR (cR (cL (cL (cR (cR (cL (cL (cR (cL (cR (cR (cR (cR (cR C_mpx)))))))))))))))))))) n { fr := mkFr 7 [(4, AV.op 3 [] 0), (7, AV.os 4 0), (10, AV.os 5 0), (11, AV.os 6 0), (14, I v), (15, I (IntKind.i64.wrap (a + IntKind.i64.wrap (IntKind.i64.wrap (v2 + v4) * v6)))), (16, AV.os 7 0), (37, AV.d (i64T).slice x), (38, I (Int.ofNat x.length)), (39, I i), (52, I (Int.ofNat c.length)), (53, I (IntKind.i64.wrap (j + 1)))], hp := [(0, AObj.arr 3 (i64T) 0 false nd), (1, AObj.arr 37 (Ty.str.pair ((i64T).pair ((i64T).pair ((i64T).pair (Ty.str.pair (Y0.pair ((i64T).slice.pair Ty.unit))))))) 0 true [([112, 97, 100, 115], 7, 0, 0, [], (0, [], [], ()), l, ())]), (2, AObj.arr 9 Ty.str 0 false [[120]]), (3, AObj.box (AV.d Y0 (t, d, x, ()))), (4, AObj.arr 2 (i64T) 0 false w), (5, AObj.arr 2 (i64T) 0 false o), (6, AObj.arr 3 (i64T) 0 false s), (7, AObj.arr 3 (i64T) 0 false c)], nx := 11 } k else k (AEx.exit 2) { fr := mkFr 7 [(4, AV.op 3 [] 0), (7, AV.os 4 0), (10, AV.os 5 0), (11, AV.os 6 0), (14, I v), (15, I a), (16, AV.os 7 0), (37, AV.d (i64T).slice x), (38, I (Int.ofNat x.length)), (39, I i), (52, I (Int.ofNat c.length)), (53, I j), (54, B false)], hp := [(0, AObj.arr 3 (i64T) 0 false nd), (1, AObj.arr 37 (Ty.str.pair ((i64T).pair ((i64T).pair ((i64T).pair (Ty.str.pair (Y0.pair ((i64T).slice.pair Ty.unit))))))) 0 true [([112, 97, 100, 115], 7, 0, 0, [], (0, [], [], ()), l, ())]), (2, AObj.arr 9 Ty.str 0 false [[120]]), (3, AObj.box (AV.d Y0 (t, d, x, ()))), (4, AObj.arr 2 (i64T) 0 false w), (5, AObj.arr 2 (i64T) 0 false o), (6, AObj.arr 3 (i64T) 0 false s), (7, AObj.arr 3 (i64T) 0 false c)], nx := 11 } := by
  have h := pz_stH (hlp gPx cf_mpx) l nd t d x w o s c i v a j n k
  simp only [lpH_lp] at h
  exact h
noncomputable def KPz (n : Nat) {R : Type} (k : AEx → LSt → Option R) : AEx → LSt → Option R := (blkK 2 (seqH gPx cf_mpx [6, 11] (hlp gPx cf_mpx) (cR (cR (cR (cR (cL (cL (cR (cR (cL (cL (cR (cL (cR (cR (cR (cR (cR C_mpx))))))))))))))))) (blkK 1 (seqH gPx cf_mpx [6, 11] (hlp gPx cf_mpx) (cR (cR (cR (cL (cL (cR (cL (cR (cR (cR (cR (cR C_mpx)))))))))))) (nxtH gPx cf_mpx [6, 11] (hlp gPx cf_mpx) (cL (cL (cR (cL (cR (cR (cR (cR (cR C_mpx))))))))) n k)))))
noncomputable def KPx : AEx → LSt → Option (AEnd × LHp) := (blkK 0 (seqH gPx cf_mpx [6, 11] (hlp gPx cf_mpx) (cR (cR (cR (cR (cR (cR C_mpx)))))) (endC Tryz.prog 3 Tryz.f51.results.toList ah)))
theorem pz_xH (l nd : List Int) (t : Int) (d x w o s c : List Int) (i v a j : Int) (n : Nat) {R : Type} (k : AEx → LSt → Option R) : KPz n k (.exit 2) { fr := mkFr 7 [(4, AV.op 3 [] 0), (7, AV.os 4 0), (10, AV.os 5 0), (11, AV.os 6 0), (14, I v), (15, I a), (16, AV.os 7 0), (37, AV.d (i64T).slice x), (38, I (Int.ofNat x.length)), (39, I i), (52, I (Int.ofNat c.length)), (53, I j), (54, B false)], hp := hpPz l nd t d x w o s c, nx := 11 } = (idx o a).bind fun _ => (setN o a.toNat v).bind fun v1 => lpH gPx cf_mpx [6, 11] (hlp gPx cf_mpx) (cL (cL (cR (cL (cR (cR (cR (cR (cR C_mpx))))))))) n (stPx l nd t d x w v1 s 10 (IntKind.i64.wrap (i + 1))) k := by kernel_rfl
theorem pz_x (l nd : List Int) (t : Int) (d x w o s c : List Int) (i v a j : Int) (n : Nat) {R : Type} (k : AEx → LSt → Option R) : KPz n k (.exit 2) { fr := mkFr 7 [(4, AV.op 3 [] 0), (7, AV.os 4 0), (10, AV.os 5 0), (11, AV.os 6 0), (14, I v), (15, I a), (16, AV.os 7 0), (37, AV.d (i64T).slice x), (38, I (Int.ofNat x.length)), (39, I i), (52, I (Int.ofNat c.length)), (53, I j), (54, B false)], hp := hpPz l nd t d x w o s c, nx := 11 } = (idx o a).bind fun _ => (setN o a.toNat v).bind fun v1 => lp gPx cf_mpx (cL (cL (cR (cL (cR (cR (cR (cR (cR C_mpx))))))))) n (stPx l nd t d x w v1 s 10 (IntKind.i64.wrap (i + 1))) k := by
  have h := pz_xH l nd t d x w o s c i v a j n k
  simp only [lpH_lp] at h
  exact h
theorem px_ex (l nd : List Int) (t : Int) (d x w o s : List Int) (i : Int) : KPx (.exit 0) { fr := mkFr 7 [(4, AV.op 3 [] 0), (7, AV.os 4 0), (10, AV.os 5 0), (11, AV.os 6 0), (37, AV.d (i64T).slice x), (38, I (Int.ofNat x.length)), (39, I i), (40, B false)], hp := hpPy l nd t d x w o s, nx := 10 } = some (AEnd.ret [AV.os 3 0], [(0, AObj.arr 3 (i64T) 0 false nd), (1, AObj.arr 37 (Ty.str.pair ((i64T).pair ((i64T).pair ((i64T).pair (Ty.str.pair (Y0.pair ((i64T).slice.pair Ty.unit))))))) 0 true [([112, 97, 100, 115], 7, 0, 0, [], (0, [], [], ()), l, ())]), (2, AObj.arr 9 Ty.str 0 false [[120]]), (3, AObj.arr 2 (i64T) 0 false o)]) := by kernel_rfl
end Go.Proofs.XGT
namespace Go.Proofs.XGT
open Go.Vm Go
set_option maxRecDepth 100000
set_option maxHeartbeats 2000000
/-- two lists added, place by place -/
def addN : List Nat → List Nat → List Nat
  | a :: r, b :: t => (a + b) :: addN r t
  | _, _ => []
theorem addN_len : ∀ {a b : List Nat}, a.length = b.length → (addN a b).length = a.length
  | [], [], _ => rfl
  | _ :: r, _ :: t, h => by simp only [addN, List.length_cons, addN_len (a := r) (b := t) (by simpa using h)]
theorem pz_lp {l nd : List Int} {t : Int} {d x o wr : List Int} {i v : Int} {m : Nat} {R : Type} {k : AEx → LSt → Option R} : ∀ (C P S : List Nat) (cp wp sp : List Int) (a n : Nat), wp.length = cp.length → sp.length = cp.length → P.length = C.length → S.length = C.length → (∀ x ∈ S, 1 ≤ x) → a + dot (addN C P) S ≤ 65536 → cp.length + C.length ≤ 6 → C.length < n →
    lp gPx cf_mpx (cL (cL (cR (cL (cR (cR (cR (cL (cL (cR (cR (cL (cL (cR (cL (cR (cR (cR (cR (cR C_mpx)))))))))))))))))))) n (stPz l nd t d x (wp ++ (ints P ++ wr)) o (sp ++ ints S) (cp ++ ints C) 11 i v (a : Nat) (cp.length : Nat)) (KPz m k) =
      (idx o ((a + dot (addN C P) S : Nat) : Int)).bind fun _ => (setN o ((a + dot (addN C P) S : Nat) : Int).toNat v).bind fun v1 => lp gPx cf_mpx (cL (cL (cR (cL (cR (cR (cR (cR (cR C_mpx))))))))) m (stPx l nd t d x (wp ++ (ints P ++ wr)) v1 (sp ++ ints S) 10 (IntKind.i64.wrap (i + 1))) k
  | [], P, S, cp, wp, sp, a, n, _, _, _, _, _, _, _, hn => by
    obtain ⟨n, rfl⟩ : ∃ m', n = m' + 1 := ⟨n - 1, by omega⟩
    rw [pz_st, show ints [] = [] from rfl, List.append_nil, decide_eq_false (show ¬ (((cp.length : Nat) : Int) < Int.ofNat cp.length) by simp only [Int.ofNat_eq_natCast]; omega), cond_false, show dot (addN [] P) S = 0 by cases S <;> rfl, Nat.add_zero]
    exact pz_x _ _ _ _ _ _ _ _ _ _ _ _ _ _ _
  | c :: C, p :: P, s :: S, cp, wp, sp, a, n, h1, h2, h3, h4, hs, ha, h6, hn => by
    obtain ⟨n, rfl⟩ : ∃ m', n = m' + 1 := ⟨n - 1, by omega⟩
    simp only [List.length_cons] at h3 h4 h6 hn
    have ha' : a + ((c + p) * s + dot (addN C P) S) ≤ 65536 := ha
    have s1 := hs s (by simp)
    have e1 : (c + p) ≤ (c + p) * s := Nat.le_mul_of_pos_right _ s1
    have key := pz_lp (l := l) (nd := nd) (t := t) (d := d) (x := x) (o := o) (wr := wr) (i := i) (v := v) (m := m) (k := k) C P S (cp ++ [(c : Int)]) (wp ++ [(p : Int)]) (sp ++ [(s : Int)]) (a + (c + p) * s) n (by simp [h1]) (by simp [h2]) (by omega) (by omega) (fun y hy => hs y (by simp [hy])) (by omega) (by rw [List.length_append, List.length_singleton]; omega) (by omega)
    have eC : cp ++ ints (c :: C) = cp ++ (c : Int) :: ints C := rfl
    have eP : wp ++ (ints (p :: P) ++ wr) = wp ++ (p : Int) :: (ints P ++ wr) := rfl
    have eS : sp ++ ints (s :: S) = sp ++ (s : Int) :: ints S := rfl
    have g1 : idx (cp ++ (c : Int) :: ints C) (Int.ofNat cp.length) = some (c : Int) := mid_idx
    have g1' : (cp ++ (c : Int) :: ints C)[(Int.ofNat cp.length).toNat]? = some (c : Int) := mid_get
    have g2 : idx (wp ++ (p : Int) :: (ints P ++ wr)) (Int.ofNat cp.length) = some (p : Int) := by rw [← h1]; exact mid_idx
    have g2' : (wp ++ (p : Int) :: (ints P ++ wr))[(Int.ofNat cp.length).toNat]? = some (p : Int) := by rw [← h1]; exact mid_get
    have g3 : idx (sp ++ (s : Int) :: ints S) (Int.ofNat cp.length) = some (s : Int) := by rw [← h2]; exact mid_idx
    have g3' : (sp ++ (s : Int) :: ints S)[(Int.ofNat cp.length).toNat]? = some (s : Int) := by rw [← h2]; exact mid_get
    have w1 : IntKind.i64.wrap ((c : Int) + p) = ((c + p : Nat) : Int) := by rw [wrap64 (by omega) (by omega)]; omega
    have w2 : IntKind.i64.wrap (((c + p : Nat) : Int) * s) = (((c + p) * s : Nat) : Int) := by rw [← Int.natCast_mul, wrap64 (by omega) (by omega)]
    have w3 : IntKind.i64.wrap ((a : Int) + (((c + p) * s : Nat) : Int)) = ((a + (c + p) * s : Nat) : Int) := by rw [wrap64 (by omega) (by omega)]; omega
    have w4 : IntKind.i64.wrap (Int.ofNat cp.length + 1) = ((cp.length + 1 : Nat) : Int) := by simp only [Int.ofNat_eq_natCast]; rw [wrap64 (by omega) (by omega)]; omega
    rw [eC, eP, eS, show ((cp.length : Nat) : Int) = Int.ofNat cp.length from rfl, pz_st, decide_eq_true (show Int.ofNat cp.length < Int.ofNat (cp ++ (c : Int) :: ints C).length by rw [List.length_append, List.length_cons]; simp only [Int.ofNat_eq_natCast]; omega), cond_true, g1, Option.bind_some, g1', Option.bind_some, g2, Option.bind_some, g2', Option.bind_some, g3, Option.bind_some, g3', Option.bind_some, w1, w2, w3, w4]
    simp only [List.append_assoc, List.singleton_append, List.length_append, List.length_singleton] at key
    rw [show a + dot (addN (c :: C) (p :: P)) (s :: S) = a + (c + p) * s + dot (addN C P) S from (Nat.add_assoc _ _ _).symm]
    exact key
  | _ :: _, [], _, _, _, _, _, _, _, _, h3, _, _, _, _, _ => by cases h3
  | _ :: _, _ :: _, [], _, _, _, _, _, _, _, _, h4, _, _, _, _ => by cases h4
/-- the data put at their places -/
def putN (D P S : List Nat) : List Int → Nat → List Int → List Int
  | [], _, o => o
  | v :: r, q, o => putN D P S r (q + 1) (o.set (dot (addN (dig D q) P) S) v)
theorem px_lp {l nd : List Int} {t : Int} {wr : List Int} {D P S : List Nat} {N : Nat} (hD : countE (ints D) = 0) (hP : P.length = D.length) (hS : S.length = D.length) (hs : ∀ x ∈ S, 1 ≤ x) (h6 : D.length ≤ 6) (hN : N ≤ 65536) (hb : ∀ q < prodN D, dot (addN (dig D q) P) S < N) : ∀ (xr xp o : List Int) (n : Nat), o.length = N → xp.length + xr.length = prodN D → xr.length < n →
    lp gPx cf_mpx (cL (cL (cR (cL (cR (cR (cR (cR (cR C_mpx))))))))) n (stPx l nd t (ints D) (xp ++ xr) (ints P ++ wr) o (ints S) 10 (xp.length : Nat)) KPx = KPx (.exit 0) { fr := mkFr 7 [(4, AV.op 3 [] 0), (7, AV.os 4 0), (10, AV.os 5 0), (11, AV.os 6 0), (37, AV.d (i64T).slice (xp ++ xr)), (38, I (Int.ofNat (xp ++ xr).length)), (39, I ((xp ++ xr).length : Nat)), (40, B false)], hp := hpPy l nd t (ints D) (xp ++ xr) (ints P ++ wr) (putN D P S xr xp.length o) (ints S), nx := 10 }
  | [], xp, o, n, _, _, hn => by
    obtain ⟨n, rfl⟩ : ∃ m', n = m' + 1 := ⟨n - 1, by omega⟩
    rw [List.append_nil, px_st, decide_eq_false (show ¬ (((xp.length : Nat) : Int) < Int.ofNat xp.length) by simp only [Int.ofNat_eq_natCast]; omega), cond_false]
    rfl
  | v :: xr, xp, o, n, ho, hx, hn => by
    obtain ⟨n, rfl⟩ : ∃ m', n = m' + 1 := ⟨n - 1, by omega⟩
    simp only [List.length_cons] at hx hn
    have hq : xp.length < prodN D := by omega
    have hp : prodN D ≤ 65536 := by
      have e := (count_ok hD).2.2.1
      rw [prodI_ints] at e
      omega
    have b1 := hb _ hq
    have key := px_lp (l := l) (nd := nd) (t := t) (wr := wr) hD hP hS hs h6 hN hb xr (xp ++ [v]) (o.set (dot (addN (dig D xp.length) P) S) v) n (by rw [List.length_set]; exact ho) (by rw [List.length_append, List.length_singleton]; omega) (by omega)
    have g1 : idx (xp ++ v :: xr) (Int.ofNat xp.length) = some v := mid_idx
    have ez := pz_lp (l := l) (nd := nd) (t := t) (d := ints D) (x := xp ++ v :: xr) (o := o) (wr := wr) (i := Int.ofNat xp.length) (v := v) (m := n) (k := KPx) (dig D xp.length) P S [] [] [] 0 fu rfl rfl (by rw [dig_len]; exact hP) (by rw [dig_len]; exact hS) hs (by omega) (by rw [dig_len, List.length_nil]; omega) (by rw [dig_len]; exact Nat.lt_of_le_of_lt h6 (by decide))
    rw [Nat.zero_add] at ez
    have g2 : idx o ((dot (addN (dig D xp.length) P) S : Nat) : Int) = some (o.getD (dot (addN (dig D xp.length) P) S) 0) := idx_in (by omega) (by omega)
    have g3 : setN o ((dot (addN (dig D xp.length) P) S : Nat) : Int).toNat v = some (o.set (dot (addN (dig D xp.length) P) S) v) := set_inJ (by omega) (by omega)
    have w4 : IntKind.i64.wrap (Int.ofNat xp.length + 1) = ((xp.length + 1 : Nat) : Int) := by simp only [Int.ofNat_eq_natCast]; rw [wrap64 (by omega) (by omega)]; omega
    rw [show ((xp.length : Nat) : Int) = Int.ofNat xp.length from rfl, px_st, decide_eq_true (show Int.ofNat xp.length < Int.ofNat (xp ++ v :: xr).length by rw [List.length_append, List.length_cons]; simp only [Int.ofNat_eq_natCast]; omega), cond_true, g1, Option.bind_some, decide_eq_true (show countE (ints D) = 0 ∧ 0 ≤ Int.ofNat xp.length ∧ (Int.ofNat xp.length).toNat < prodN (List.map Int.toNat (ints D)) by rw [ints_toNat]; exact ⟨hD, by simp only [Int.ofNat_eq_natCast]; omega, hq⟩), cond_true, ints_toNat, show (Int.ofNat xp.length).toNat = xp.length from rfl]
    refine Eq.trans (Eq.trans ?_ ez) ?_
    · kernel_rfl
    · rw [g2, Option.bind_some, g3, Option.bind_some, w4]
      simp only [List.append_assoc, List.singleton_append, List.length_append, List.length_singleton] at key
      exact key
end Go.Proofs.XGT
namespace Go.Proofs.XGT
open Go.Vm Go
set_option maxRecDepth 100000
set_option maxHeartbeats 2000000
theorem addN_get : ∀ {a b : List Nat}, a.length = b.length → ∀ i, (addN a b).getD i 0 = a.getD i 0 + b.getD i 0
  | [], [], _, i => by simp [addN]
  | _ :: r, _ :: t, h, 0 => rfl
  | _ :: r, _ :: t, h, i + 1 => by
    have := addN_get (a := r) (b := t) (by simpa using h) i
    exact this
theorem inb_of : ∀ {a b : List Nat}, a.length = b.length → (∀ i, i < a.length → a.getD i 0 < b.getD i 0) → inb a b
  | [], [], _, _ => trivial
  | _ :: r, _ :: t, h, g => ⟨g 0 (by simp), inb_of (by simpa using h) fun i hi => g (i + 1) (by simpa using hi)⟩
theorem inb_get : ∀ {a b : List Nat}, inb a b → ∀ i, i < a.length → a.getD i 0 < b.getD i 0
  | _ :: _, _ :: _, h, 0, _ => h.1
  | _ :: r, _ :: t, h, i + 1, hi => inb_get (a := r) (b := t) h.2 i (by simpa using hi)
theorem strN_pos : ∀ {ds : List Nat}, (∀ x ∈ ds, 1 ≤ x) → ∀ x ∈ strN ds, 1 ≤ x
  | [], _, x, hx => by cases hx
  | d :: r, h, x, hx => by
    have hr : ∀ y ∈ r, 1 ≤ y := fun y hy => h y (by simp [hy])
    rcases List.mem_cons.1 hx with rfl | hx
    · exact prodN_pos hr
    · exact strN_pos hr x hx
/-- the pads ahead, and the dims of a pad -/
def padP (d l : List Int) : List Nat := (l.take d.length).map Int.toNat
def padN (d l : List Int) : List Nat := (padD d l).map Int.toNat
def padX (d l x : List Int) : List Int := putN (d.map Int.toNat) (padP d l) (strN (padN d l)) x 0 (List.replicate (prodN (padN d l)) 0)
theorem pad_facts {d l : List Int} (h1 : countE d = 0) (hl : numC (Int.ofNat (2 * d.length)) 0 65536 l = true) (h2 : countE (padD d l) = 0) : ∃ D E P : List Nat, ∃ wr : List Int, d = ints D ∧ padD d l = ints E ∧ l = ints P ++ wr ∧ d.map Int.toNat = D ∧ padN d l = E ∧ padP d l = P ∧ P.length = D.length ∧ E.length = D.length ∧ prodN D ≤ 65536 ∧ prodN E ≤ 65536 ∧ D.length ≤ 6 ∧ (∀ x ∈ E, 1 ≤ x) ∧ ∀ q < prodN D, inb (addN (dig D q) P) E := by
  obtain ⟨D, eD, eD2, o1, o2, o3⟩ := nat_dims h1
  obtain ⟨E, eE, eE2, u1, u2, u3⟩ := nat_dims h2
  obtain ⟨nl, ll⟩ := numC_in hl
  have hll : l.length = 2 * d.length := by simp only [Int.ofNat_eq_natCast] at ll; omega
  have hd : d.length = D.length := by rw [eD, ints_len]
  have eP : ints (padP d l) = l.take d.length := ints_nat fun x hx => (nl x (List.mem_of_mem_take hx)).1
  have pl : (padP d l).length = D.length := by unfold padP; rw [List.length_map, List.length_take]; omega
  have el : E.length = D.length := by rw [← ints_len E, ← eE, padD_len, hd]
  refine ⟨D, E, padP d l, l.drop d.length, eD, eE, by rw [eP, List.take_append_drop], eD2.symm, eE2.symm, rfl, pl, el, o2, u2, o3, u1, fun q hq => ?_⟩
  have hi := inb_dig hq
  have dl : (dig D q).length = D.length := dig_len D q
  refine inb_of (by rw [addN_len (by omega)]; omega) fun i hi' => ?_
  rw [addN_len (by omega), dl] at hi'
  have g := inb_get hi i (by omega)
  rw [addN_get (by omega)]
  have e1 : (padD d l).getD i 0 = ((E.getD i 0 : Nat) : Int) := by rw [eE, ints_getD]
  have e2 : (padD d l).getD i 0 = padV d l i := by
    unfold padD
    rw [List.getD_eq_getElem?_getD, tab_get (by omega)]
    rfl
  have e3 : d.getD i 0 = ((D.getD i 0 : Nat) : Int) := by rw [eD, ints_getD]
  have e4 : l.getD i 0 = (((padP d l).getD i 0 : Nat) : Int) := by
    rw [← ints_getD, eP, List.getD_eq_getElem?_getD, List.getD_eq_getElem?_getD, List.getElem?_take_of_lt (by omega)]
  have e5 : 0 ≤ l.getD (d.length + i) 0 := by
    have hlt : d.length + i < l.length := by omega
    rw [List.getD_eq_getElem?_getD, List.getElem?_eq_getElem hlt]
    exact (nl _ (List.getElem_mem hlt)).1
  unfold padV at e2
  omega
theorem mpx_run {t p : Int} {d x l : List Int} (ht : tenE t d x = 0) (hl : numC (Int.ofNat (2 * d.length)) 0 65536 (p :: l) = true) (h2 : countE (padD d (p :: l)) = 0) : runC gPx Tryz.f51 7 [(6, [4, 7, 10, 11, 37, 38, 39]), (11, [4, 7, 10, 11, 14, 15, 16, 37, 38, 39, 52, 53])] [nodeA strPA [] [121] (.os 2 0) (.os 1 0), .d (Y0) (t, d, x, ()), .os 0 0] (hpPx false (p :: l) (padD d (p :: l))) ah =
    some (.ret [.os 3 0], hpPx false (p :: l) (padD d (p :: l)) ++ [(3, .arr 2 i64T 0 false (padX d (p :: l) x))]) := by
  obtain ⟨n1, n2, n3, _⟩ := ten_ok ht
  obtain ⟨D, E, P, wr, eD, eE, el, eD2, eE2, eP2, hP, hE, hpd, hpe, h6, u1, hb⟩ := pad_facts n2 hl h2
  obtain ⟨_, l1, m1, q1⟩ := count_ok n2
  obtain ⟨_, l2, m2, q2⟩ := count_ok h2
  have hpe1 := prodN_pos u1
  have hf : fu = 18446744073709551616 := rfl
  have hll := (numC_in hl).2
  simp only [Int.ofNat_eq_natCast] at hll
  have happ : app [] (p :: l) = some (p :: l) := app_eq (by simp only [List.length_nil, lim]; omega)
  have cE : countN (padD d (p :: l)) = (prodN E : Nat) := by rw [q2, eE, prodI_ints]
  have hx : x.length = prodN D := by
    rw [q1, eD, prodI_ints] at n3
    omega
  rw [px_eq, happ, Option.bind_some, decide_eq_true (show (padD d (p :: l)).length ≤ 9223372036854775807 by omega), decide_eq_true (show 1 ≤ countN (padD d (p :: l)) ∧ countN (padD d (p :: l)) ≤ 65536 by omega), h2, cE, cond_true, cond_true, cond_true, show ((0 : Int) != 0) = false from rfl, cond_false]
  have key := px_lp (l := p :: l) (nd := padD d (p :: l)) (t := t) (wr := wr) (D := D) (P := P) (S := strN E) (N := prodN E) (by rw [← eD]; exact n2) hP (by rw [strN_len]; exact hE) (strN_pos u1) h6 hpe (fun q hq => dot_lt (hb q hq)) x [] (List.replicate (prodN E) 0) fu (List.length_replicate ..) (by rw [List.length_nil]; omega) (by omega)
  have es : strI (padD d (p :: l)) = ints (strN E) := by rw [eE, strI_ints]
  rw [List.nil_append, ← eD, ← el, px_ex] at key
  unfold padX
  rw [eD2, eE2, eP2, es]
  refine Eq.trans ?_ key
  kernel_rfl
end Go.Proofs.XGT
namespace Go.Proofs.XGT
open Go.Vm Go
set_option maxRecDepth 100000
set_option maxHeartbeats 4000000
def mpQ (t : Int) (d x l nd : List Int) : Tq :=
  .br (decide (nd = padD d l ∧ tenE t d x = 0 ∧ numC (Int.ofNat (2 * d.length)) 0 65536 l = true ∧ countE nd = 0 ∧ l ≠ [])) (.leaf (.ret [.os 3 0]) (hpPx false l nd ++ [(3, .arr 2 i64T 0 false (padX d l x))])) .no
def mpT : List AV → LHp → Tq
  | [n, .d (.pair (.int .i64) (.pair (.slice (.int .i64)) (.pair (.slice (.int .i64)) .unit))) (t, d, x, ()), .os 0 0], [(0, .arr 3 (.int .i64) 0 false nd), (1, .arr 37 ((.pair .str (.pair (.int .i64) (.pair (.int .i64) (.pair (.int .i64) (.pair .str (.pair (.pair (.int .i64) (.pair (.slice (.int .i64)) (.pair (.slice (.int .i64)) .unit))) (.pair (.slice (.int .i64)) .unit)))))))) 0 true [a]), (2, .arr 9 .str 0 false ins)] =>
    (match nodeP n with
    | some (op, nm, out, .os 2 0, .os 1 0) => gate (decide (op = strPA) && decide (nm = []) && decide (out = [121]) && decide (ins = [[120]]) && isL a strPads) (mpQ t d x a.2.2.2.2.2.2.1 nd)
    | _ => .no)
  | _, _ => .no
theorem mpT_ok : FnE.OK e0.P e0.gam 51 (treeE mpT) := by
  have h1 : FnE.OK e0.P e0.gam 51 (execFnC gPx Tryz.f51 7 [(6, [4, 7, 10, 11, 37, 38, 39]), (11, [4, 7, 10, 11, 14, 15, 16, 37, 38, 39, 52, 53])]) := execFnC_ok gPx_good hmix Tryz.func51 Tryz.call51 (by decide +kernel) rfl
  refine ⟨fun _ _ _ => Tq.eq _ _, fun args hs ae hs' h => ?_⟩
  have h' : (mpT args hs).run ah = some (ae, hs') := h
  clear h
  unfold mpT at h'
  split at h'
  · rename_i n t d x nd a ins
    split at h'
    · rename_i hn
      rw [nodeP_some hn]
      obtain ⟨hb, h2⟩ := gate_run h'
      clear h'
      simp only [Bool.and_eq_true, decide_eq_true_eq] at hb
      obtain ⟨⟨⟨⟨b1, b2⟩, b3⟩, b4⟩, b5⟩ := hb
      subst b1 b2 b3 b4
      obtain ⟨l, rfl⟩ := isL_eq b5
      change (mpQ t d x l nd).run ah = _ at h2
      obtain ⟨hc, h3⟩ := Tq.br_no h2
      obtain ⟨rfl, c2, c3, c4, c5⟩ := of_decide_eq_true hc
      cases l with
      | nil => exact absurd rfl c5
      | cons p l =>
        cases h3
        exact h1.okC (mpx_run c2 c3 c4)
    · cases h'
  · cases h'
noncomputable def gMz : Env := (g227.add 42 (treeE pbT)).add 51 (treeE mpT)
theorem gMz_good : gMz.Good := (g227_good.add pbT_ok).add mpT_ok
theorem mdz_eq (t : Int) (d x l : List Int) : runC gMz Tryz.f27 7 [] [nodeA strPA [] [121] (.os 2 0) (.os 1 0), .os 0 0] (hpTb false t d x [lattr strPads l]) ah = bif decide (x.length ≤ 9223372036854775807 ∧ d.length ≤ 9223372036854775807 ∧ l.length ≤ 2147483648) then  bif tenE t d x != 0 then some (AEnd.ret [(I 0).pr (AV.nils.pr (AV.nils.pr (AV.d Ty.unit PUnit.unit))), I 1], [(0, AObj.arr 25 Y0 0 false [(t, d, x, ())]), (1, AObj.arr 37 (Ty.str.pair ((i64T).pair ((i64T).pair ((i64T).pair (Ty.str.pair (Y0.pair ((i64T).slice.pair Ty.unit))))))) 0 false [([112, 97, 100, 115], 7, 0, 0, [], (0, [], [], ()), l, ())]), (2, AObj.arr 9 Ty.str 0 false [[120]])]) else  bif !decide (d = [] ∧ l = []) then  bif padE t d l != 0 then  bif padE t d l != 0 then some (AEnd.ret [(I 0).pr (AV.nils.pr (AV.nils.pr (AV.d Ty.unit PUnit.unit))), I (padE t d l)], [(0, AObj.arr 25 Y0 0 false [(t, d, x, ())]), (1, AObj.arr 37 (Ty.str.pair ((i64T).pair ((i64T).pair ((i64T).pair (Ty.str.pair (Y0.pair ((i64T).slice.pair Ty.unit))))))) 0 true [([112, 97, 100, 115], 7, 0, 0, [], (0, [], [], ()), l, ())]), (2, AObj.arr 9 Ty.str 0 false [[120]])]) else none else  bif decide (padD d l = padD d l ∧ tenE t d x = 0 ∧ numC (Int.ofNat (2 * d.length)) 0 65536 l = true ∧ countE (padD d l) = 0 ∧ l ≠ []) then some (AEnd.ret [(I t).pr ((AV.os 3 0).pr ((AV.os 4 0).pr (AV.d Ty.unit PUnit.unit))), I 0], [(0, AObj.arr 25 Y0 0 false [(t, d, x, ())]), (1, AObj.arr 37 (Ty.str.pair ((i64T).pair ((i64T).pair ((i64T).pair (Ty.str.pair (Y0.pair ((i64T).slice.pair Ty.unit))))))) 0 true [([112, 97, 100, 115], 7, 0, 0, [], (0, [], [], ()), l, ())]), (2, AObj.arr 9 Ty.str 0 false [[120]]), (3, AObj.arr 3 (i64T) 0 false (padD d l)), (4, AObj.arr 2 (i64T) 0 false (padX d l x))]) else none else none else none := by kernel_rfl
end Go.Proofs.XGT
namespace Go.Proofs.XGT
open Go.Vm Go
set_option maxRecDepth 100000
set_option maxHeartbeats 4000000
def at2 (s e : List Int) : List (Y1).den := [lattr strStarts s, lattr strEnds e]
def hpS2 (s e n : List Int) : LHp := [(0, .arr 3 i64T 0 false n), (1, .arr 37 (Y1) 0 true (at2 s e)), (2, .arr 9 .str 0 false [[120]])]
theorem sw_eqH (hl : Hl) (t s : Int) (sm e d n x : List Int) : runH gSv Tryz.f48 7 [(4, [2, 3, 4, 7, 8, 19, 20]), (10, [2, 4, 7, 10, 32, 33, 34])] [4, 10] hl [nodeA strSL [] [121] (.os 2 0) (.os 1 0), .d (Y0) (t, d, x, ()), .os 0 0] (hpS2 (s :: sm) e n) ah = (app [] (s :: sm)).bind fun v0 => hl (cL (cL (cR (cL (cR (cR (cR C_msv))))))) _ { fr := mkFr 7 [(2, AV.os 0 0), (3, AV.op 3 [] 0), (4, AV.op 4 [] 0), (7, AV.os 5 0), (8, AV.nils), (19, I (Int.ofNat v0.length)), (20, I 0)], hp := [(0, AObj.arr 3 (i64T) 0 false n), (1, AObj.arr 37 (Ty.str.pair ((i64T).pair ((i64T).pair ((i64T).pair (Ty.str.pair (Y0.pair ((i64T).slice.pair Ty.unit))))))) 0 true [([115, 116, 97, 114, 116, 115], 7, 0, 0, [], (0, [], [], ()), s :: sm, ()), ([101, 110, 100, 115], 7, 0, 0, [], (0, [], [], ()), e, ())]), (2, AObj.arr 9 Ty.str 0 false [[120]]), (3, AObj.box ((AV.d Ty.str [83, 108, 105, 99, 101]).pr ((AV.d Ty.str []).pr ((AV.os 2 0).pr ((AV.d Ty.str [121]).pr ((AV.os 1 0).pr (AV.d Ty.unit PUnit.unit))))))), (4, AObj.box (AV.d Y0 (t, d, x, ()))), (5, AObj.arr 2 (i64T) 0 false v0)], nx := 9 } (blkK 0 (seqH gSv cf_msv [4, 10] hl (cR (cR (cR (cR C_msv)))) (endC Tryz.prog 3 Tryz.f48.results.toList ah))) := by kernel_rfl
theorem sw_eq (t s : Int) (sm e d n x : List Int) : runC gSv Tryz.f48 7 [(4, [2, 3, 4, 7, 8, 19, 20]), (10, [2, 4, 7, 10, 32, 33, 34])] [nodeA strSL [] [121] (.os 2 0) (.os 1 0), .d (Y0) (t, d, x, ()), .os 0 0] (hpS2 (s :: sm) e n) ah = (app [] (s :: sm)).bind fun v0 => (hlp gSv cf_msv) (cL (cL (cR (cL (cR (cR (cR C_msv))))))) _ { fr := mkFr 7 [(2, AV.os 0 0), (3, AV.op 3 [] 0), (4, AV.op 4 [] 0), (7, AV.os 5 0), (8, AV.nils), (19, I (Int.ofNat v0.length)), (20, I 0)], hp := [(0, AObj.arr 3 (i64T) 0 false n), (1, AObj.arr 37 (Ty.str.pair ((i64T).pair ((i64T).pair ((i64T).pair (Ty.str.pair (Y0.pair ((i64T).slice.pair Ty.unit))))))) 0 true [([115, 116, 97, 114, 116, 115], 7, 0, 0, [], (0, [], [], ()), s :: sm, ()), ([101, 110, 100, 115], 7, 0, 0, [], (0, [], [], ()), e, ())]), (2, AObj.arr 9 Ty.str 0 false [[120]]), (3, AObj.box ((AV.d Ty.str [83, 108, 105, 99, 101]).pr ((AV.d Ty.str []).pr ((AV.os 2 0).pr ((AV.d Ty.str [121]).pr ((AV.os 1 0).pr (AV.d Ty.unit PUnit.unit))))))), (4, AObj.box (AV.d Y0 (t, d, x, ()))), (5, AObj.arr 2 (i64T) 0 false v0)], nx := 9 } (blkK 0 (seqH gSv cf_msv [4, 10] (hlp gSv cf_msv) (cR (cR (cR (cR C_msv)))) (endC Tryz.prog 3 Tryz.f48.results.toList ah))) := runH_runC.trans (sw_eqH (hlp gSv cf_msv) t s sm e d n x)
def hpSw (t : Int) (s e d w x : List Int) : LHp := hpS2 s e w ++ [(3, AObj.box ((AV.d Ty.str [83, 108, 105, 99, 101]).pr ((AV.d Ty.str []).pr ((AV.os 2 0).pr ((AV.d Ty.str [121]).pr ((AV.os 1 0).pr (AV.d Ty.unit PUnit.unit))))))), (4, AObj.box (AV.d (Y0) (t, d, x, ()))), (5, .arr 2 i64T 0 false s)]
def stSw (t : Int) (s e d w x : List Int) (i : Int) : LSt := { fr := mkFr 7 [(2, AV.os 0 0), (3, AV.op 3 [] 0), (4, AV.op 4 [] 0), (7, AV.os 5 0), (8, AV.nils), (19, I (Int.ofNat s.length)), (20, I i)], hp := hpSw t s e d w x, nx := 9 }
theorem sw_s0H (hl : Hl) (t : Int) (s e d w x : List Int) (n : Nat) {R : Type} (k : AEx → LSt → Option R) : lpH gSv cf_msv [4, 10] hl (cL (cL (cR (cL (cR (cR (cR C_msv))))))) (n + 1) (stSw t s e d w x 0) k = bif decide (0 < Int.ofNat s.length) then lpH gSv cf_msv [4, 10] hl (cL (cL (cR (cL (cR (cR (cR C_msv))))))) n { fr := mkFr 7 [(2, AV.os 0 0), (3, AV.op 3 [] 0), (4, AV.op 4 [] 0), (7, AV.os 5 0), (8, AV.os 6 0), (19, I (Int.ofNat s.length)), (20, I 1)], hp := [(0, AObj.arr 3 (i64T) 0 false w), (1, AObj.arr 37 (Ty.str.pair ((i64T).pair ((i64T).pair ((i64T).pair (Ty.str.pair (Y0.pair ((i64T).slice.pair Ty.unit))))))) 0 true [([115, 116, 97, 114, 116, 115], 7, 0, 0, [], (0, [], [], ()), s, ()), ([101, 110, 100, 115], 7, 0, 0, [], (0, [], [], ()), e, ())]), (2, AObj.arr 9 Ty.str 0 false [[120]]), (3, AObj.box ((AV.d Ty.str [83, 108, 105, 99, 101]).pr ((AV.d Ty.str []).pr ((AV.os 2 0).pr ((AV.d Ty.str [121]).pr ((AV.os 1 0).pr (AV.d Ty.unit PUnit.unit))))))), (4, AObj.box (AV.d Y0 (t, d, x, ()))), (5, AObj.arr 2 (i64T) 0 false s), (6, AObj.arr 2 (i64T) 0 false [0])], nx := 10 } k else k (AEx.exit 0) { fr := mkFr 7 [(2, AV.os 0 0), (3, AV.op 3 [] 0), (4, AV.op 4 [] 0), (7, AV.os 5 0), (8, AV.nils), (19, I (Int.ofNat s.length)), (20, I 0), (21, B false)], hp := [(0, AObj.arr 3 (i64T) 0 false w), (1, AObj.arr 37 (Ty.str.pair ((i64T).pair ((i64T).pair ((i64T).pair (Ty.str.pair (Y0.pair ((i64T).slice.pair Ty.unit))))))) 0 true [([115, 116, 97, 114, 116, 115], 7, 0, 0, [], (0, [], [], ()), s, ()), ([101, 110, 100, 115], 7, 0, 0, [], (0, [], [], ()), e, ())]), (2, AObj.arr 9 Ty.str 0 false [[120]]), (3, AObj.box ((AV.d Ty.str [83, 108, 105, 99, 101]).pr ((AV.d Ty.str []).pr ((AV.os 2 0).pr ((AV.d Ty.str [121]).pr ((AV.os 1 0).pr (AV.d Ty.unit PUnit.unit))))))), (4, AObj.box (AV.d Y0 (t, d, x, ()))), (5, AObj.arr 2 (i64T) 0 false s)], nx := 9 } := by kernel_rfl
theorem sw_s0 (t : Int) (s e d w x : List Int) (n : Nat) {R : Type} (k : AEx → LSt → Option R) : lp gSv cf_msv (cL (cL (cR (cL (cR (cR (cR C_msv))))))) (n + 1) (stSw t s e d w x 0) k = bif decide (0 < Int.ofNat s.length) then lp gSv cf_msv (cL (cL (cR (cL (cR (cR (cR C_msv))))))) n { fr := mkFr 7 [(2, AV.os 0 0), (3, AV.op 3 [] 0), (4, AV.op 4 [] 0), (7, AV.os 5 0), (8, AV.os 6 0), (19, I (Int.ofNat s.length)), (20, I 1)], hp := [(0, AObj.arr 3 (i64T) 0 false w), (1, AObj.arr 37 (Ty.str.pair ((i64T).pair ((i64T).pair ((i64T).pair (Ty.str.pair (Y0.pair ((i64T).slice.pair Ty.unit))))))) 0 true [([115, 116, 97, 114, 116, 115], 7, 0, 0, [], (0, [], [], ()), s, ()), ([101, 110, 100, 115], 7, 0, 0, [], (0, [], [], ()), e, ())]), (2, AObj.arr 9 Ty.str 0 false [[120]]), (3, AObj.box ((AV.d Ty.str [83, 108, 105, 99, 101]).pr ((AV.d Ty.str []).pr ((AV.os 2 0).pr ((AV.d Ty.str [121]).pr ((AV.os 1 0).pr (AV.d Ty.unit PUnit.unit))))))), (4, AObj.box (AV.d Y0 (t, d, x, ()))), (5, AObj.arr 2 (i64T) 0 false s), (6, AObj.arr 2 (i64T) 0 false [0])], nx := 10 } k else k (AEx.exit 0) { fr := mkFr 7 [(2, AV.os 0 0), (3, AV.op 3 [] 0), (4, AV.op 4 [] 0), (7, AV.os 5 0), (8, AV.nils), (19, I (Int.ofNat s.length)), (20, I 0), (21, B false)], hp := [(0, AObj.arr 3 (i64T) 0 false w), (1, AObj.arr 37 (Ty.str.pair ((i64T).pair ((i64T).pair ((i64T).pair (Ty.str.pair (Y0.pair ((i64T).slice.pair Ty.unit))))))) 0 true [([115, 116, 97, 114, 116, 115], 7, 0, 0, [], (0, [], [], ()), s, ()), ([101, 110, 100, 115], 7, 0, 0, [], (0, [], [], ()), e, ())]), (2, AObj.arr 9 Ty.str 0 false [[120]]), (3, AObj.box ((AV.d Ty.str [83, 108, 105, 99, 101]).pr ((AV.d Ty.str []).pr ((AV.os 2 0).pr ((AV.d Ty.str [121]).pr ((AV.os 1 0).pr (AV.d Ty.unit PUnit.unit))))))), (4, AObj.box (AV.d Y0 (t, d, x, ()))), (5, AObj.arr 2 (i64T) 0 false s)], nx := 9 } := by
  have h := sw_s0H (hlp gSv cf_msv) t s e d w x n k
  simp only [lpH_lp] at h
  exact h
def stSo2 (t : Int) (s e d w x o : List Int) (i : Int) : LSt := { fr := mkFr 7 [(2, AV.os 0 0), (3, AV.op 3 [] 0), (4, AV.op 4 [] 0), (7, AV.os 5 0), (8, AV.os 6 0), (19, I (Int.ofNat s.length)), (20, I i)], hp := hpSw t s e d w x ++ [(6, .arr 2 i64T 0 false o)], nx := 10 }
theorem sw_stH (hl : Hl) (t : Int) (s e d w x o : List Int) (i : Int) (n : Nat) {R : Type} (k : AEx → LSt → Option R) : lpH gSv cf_msv [4, 10] hl (cL (cL (cR (cL (cR (cR (cR C_msv))))))) (n + 1) (stSo2 t s e d w x o i) k = bif decide (i < Int.ofNat s.length) then (app o [i]).bind fun v1 => lpH gSv cf_msv [4, 10] hl (cL (cL (cR (cL (cR (cR (cR C_msv))))))) n { fr := mkFr 7 [(2, AV.os 0 0), (3, AV.op 3 [] 0), (4, AV.op 4 [] 0), (7, AV.os 5 0), (8, AV.os 6 0), (19, I (Int.ofNat s.length)), (20, I (IntKind.i64.wrap (i + 1)))], hp := [(0, AObj.arr 3 (i64T) 0 false w), (1, AObj.arr 37 (Ty.str.pair ((i64T).pair ((i64T).pair ((i64T).pair (Ty.str.pair (Y0.pair ((i64T).slice.pair Ty.unit))))))) 0 true [([115, 116, 97, 114, 116, 115], 7, 0, 0, [], (0, [], [], ()), s, ()), ([101, 110, 100, 115], 7, 0, 0, [], (0, [], [], ()), e, ())]), (2, AObj.arr 9 Ty.str 0 false [[120]]), (3, AObj.box ((AV.d Ty.str [83, 108, 105, 99, 101]).pr ((AV.d Ty.str []).pr ((AV.os 2 0).pr ((AV.d Ty.str [121]).pr ((AV.os 1 0).pr (AV.d Ty.unit PUnit.unit))))))), (4, AObj.box (AV.d Y0 (t, d, x, ()))), (5, AObj.arr 2 (i64T) 0 false s), (6, AObj.arr 2 (i64T) 0 false v1)], nx := 10 } k else k (AEx.exit 0) { fr := mkFr 7 [(2, AV.os 0 0), (3, AV.op 3 [] 0), (4, AV.op 4 [] 0), (7, AV.os 5 0), (8, AV.os 6 0), (19, I (Int.ofNat s.length)), (20, I i), (21, B false)], hp := [(0, AObj.arr 3 (i64T) 0 false w), (1, AObj.arr 37 (Ty.str.pair ((i64T).pair ((i64T).pair ((i64T).pair (Ty.str.pair (Y0.pair ((i64T).slice.pair Ty.unit))))))) 0 true [([115, 116, 97, 114, 116, 115], 7, 0, 0, [], (0, [], [], ()), s, ()), ([101, 110, 100, 115], 7, 0, 0, [], (0, [], [], ()), e, ())]), (2, AObj.arr 9 Ty.str 0 false [[120]]), (3, AObj.box ((AV.d Ty.str [83, 108, 105, 99, 101]).pr ((AV.d Ty.str []).pr ((AV.os 2 0).pr ((AV.d Ty.str [121]).pr ((AV.os 1 0).pr (AV.d Ty.unit PUnit.unit))))))), (4, AObj.box (AV.d Y0 (t, d, x, ()))), (5, AObj.arr 2 (i64T) 0 false s), (6, AObj.arr 2 (i64T) 0 false o)], nx := 10 } := by kernel_rfl
theorem sw_st (t : Int) (s e d w x o : List Int) (i : Int) (n : Nat) {R : Type} (k : AEx → LSt → Option R) : lp gSv cf_msv (cL (cL (cR (cL (cR (cR (cR C_msv))))))) (n + 1) (stSo2 t s e d w x o i) k = bif decide (i < Int.ofNat s.length) then (app o [i]).bind fun v1 => lp gSv cf_msv (cL (cL (cR (cL (cR (cR (cR C_msv))))))) n { fr := mkFr 7 [(2, AV.os 0 0), (3, AV.op 3 [] 0), (4, AV.op 4 [] 0), (7, AV.os 5 0), (8, AV.os 6 0), (19, I (Int.ofNat s.length)), (20, I (IntKind.i64.wrap (i + 1)))], hp := [(0, AObj.arr 3 (i64T) 0 false w), (1, AObj.arr 37 (Ty.str.pair ((i64T).pair ((i64T).pair ((i64T).pair (Ty.str.pair (Y0.pair ((i64T).slice.pair Ty.unit))))))) 0 true [([115, 116, 97, 114, 116, 115], 7, 0, 0, [], (0, [], [], ()), s, ()), ([101, 110, 100, 115], 7, 0, 0, [], (0, [], [], ()), e, ())]), (2, AObj.arr 9 Ty.str 0 false [[120]]), (3, AObj.box ((AV.d Ty.str [83, 108, 105, 99, 101]).pr ((AV.d Ty.str []).pr ((AV.os 2 0).pr ((AV.d Ty.str [121]).pr ((AV.os 1 0).pr (AV.d Ty.unit PUnit.unit))))))), (4, AObj.box (AV.d Y0 (t, d, x, ()))), (5, AObj.arr 2 (i64T) 0 false s), (6, AObj.arr 2 (i64T) 0 false v1)], nx := 10 } k else k (AEx.exit 0) { fr := mkFr 7 [(2, AV.os 0 0), (3, AV.op 3 [] 0), (4, AV.op 4 [] 0), (7, AV.os 5 0), (8, AV.os 6 0), (19, I (Int.ofNat s.length)), (20, I i), (21, B false)], hp := [(0, AObj.arr 3 (i64T) 0 false w), (1, AObj.arr 37 (Ty.str.pair ((i64T).pair ((i64T).pair ((i64T).pair (Ty.str.pair (Y0.pair ((i64T).slice.pair Ty.unit))))))) 0 true [([115, 116, 97, 114, 116, 115], 7, 0, 0, [], (0, [], [], ()), s, ()), ([101, 110, 100, 115], 7, 0, 0, [], (0, [], [], ()), e, ())]), (2, AObj.arr 9 Ty.str 0 false [[120]]), (3, AObj.box ((AV.d Ty.str [83, 108, 105, 99, 101]).pr ((AV.d Ty.str []).pr ((AV.os 2 0).pr ((AV.d Ty.str [121]).pr ((AV.os 1 0).pr (AV.d Ty.unit PUnit.unit))))))), (4, AObj.box (AV.d Y0 (t, d, x, ()))), (5, AObj.arr 2 (i64T) 0 false s), (6, AObj.arr 2 (i64T) 0 false o)], nx := 10 } := by
  have h := sw_stH (hlp gSv cf_msv) t s e d w x o i n k
  simp only [lpH_lp] at h
  exact h
noncomputable def KSw : AEx → LSt → Option (AEnd × LHp) := (blkK 0 (seqH gSv cf_msv [4, 10] (hlp gSv cf_msv) (cR (cR (cR (cR C_msv)))) (endC Tryz.prog 3 Tryz.f48.results.toList ah)))
noncomputable def KSwH (hl : Hl) : AEx → LSt → Option (AEnd × LHp) := (blkK 0 (seqH gSv cf_msv [4, 10] hl (cR (cR (cR (cR C_msv)))) (endC Tryz.prog 3 Tryz.f48.results.toList ah)))
theorem sw_exH (hl : Hl) (t : Int) (s e d w x : List Int) (o : Int) (om : List Int) (i : Int) : KSwH hl (.exit 0) { fr := mkFr 7 [(2, AV.os 0 0), (3, AV.op 3 [] 0), (4, AV.op 4 [] 0), (7, AV.os 5 0), (8, AV.os 6 0), (19, I (Int.ofNat s.length)), (20, I i), (21, B false)], hp := (stSo2 t s e d w x (o :: om) i).hp, nx := 10 } = bif decide (countE d = 0 ∧ d ≠ []) then (app [] (o :: om)).bind fun v1 => hl (cL (cL (cR (cL (cR (cR (cR (cR (cR C_msv))))))))) _ { fr := mkFr 7 [(2, AV.os 0 0), (4, AV.op 3 [] 0), (7, AV.os 4 0), (10, AV.op 5 [] 0), (32, AV.os 8 0), (33, I (Int.ofNat v1.length)), (34, I 0)], hp := [(0, AObj.arr 3 (i64T) 0 false w), (1, AObj.arr 37 (Ty.str.pair ((i64T).pair ((i64T).pair ((i64T).pair (Ty.str.pair (Y0.pair ((i64T).slice.pair Ty.unit))))))) 0 true [([115, 116, 97, 114, 116, 115], 7, 0, 0, [], (0, [], [], ()), s, ()), ([101, 110, 100, 115], 7, 0, 0, [], (0, [], [], ()), e, ())]), (2, AObj.arr 9 Ty.str 0 false [[120]]), (3, AObj.box (AV.d Y0 (t, d, x, ()))), (4, AObj.arr 2 (i64T) 0 false s), (5, AObj.box ((I 0).pr ((AV.os 6 0).pr ((AV.os 7 0).pr (AV.d Ty.unit PUnit.unit))))), (6, AObj.arr 3 (i64T) 0 false d), (7, AObj.arr 3 (i64T) 0 false (strI d)), (8, AObj.arr 2 (i64T) 0 false v1)], nx := 12 } (blkK 2 (seqH gSv cf_msv [4, 10] hl (cR (cR (cR (cR (cR (cR C_msv)))))) (endC Tryz.prog 3 Tryz.f48.results.toList ah))) else none := by kernel_rfl
end Go.Proofs.XGT
