/- slices.insertionSortOrdered: its loops' steps. -/
import Derived.Test.YtbijfcooljoogaaGreatDoorS37
import Derived.Test.YtbijfcooljoogaaGreatDoorS38
namespace Go.Proofs.XGT
open Go.Vm Go
set_option maxRecDepth 100000
set_option maxHeartbeats 4000000
theorem les_eq (a b : Int) : runC g121 Tryz.f198 5 [] [I a, I b] [] ah =
  bif a != a then 
    bif !b != b then some (AEnd.ret [B true], [])
    else some (AEnd.ret [B (decide (a < b))], [])
  else some (AEnd.ret [B (decide (a < b))], []) := by kernel_rfl
def lesF : List AV → LHp → Option (AEnd × LHp)
  | [.d (.int .i64) a, .d (.int .i64) b], [] => some (.ret [B (decide (a < b))], [])
  | _, _ => none
theorem les_run (a b : Int) : runC g121 Tryz.f198 5 [] [I a, I b] [] ah = some (.ret [B (decide (a < b))], []) := by
  rw [les_eq]
  simp only [bne_self_eq_false, cond_false]
theorem lesE_ok : FnE.OK e0.P e0.gam 198 (fnE lesF) := by
  refine fnC_ok g121_good hmix Tryz.func198 Tryz.call198 (depth := 5) (live := []) (by decide +kernel) rfl fun args hs p h => ?_
  unfold lesF at h
  split at h
  · cases h
    exact les_run _ _
  · cases h
noncomputable def C_iso : Code := codeOf Tryz.f192
noncomputable def cf_iso : Cfg := ⟨49, 6, 1, [(1, [0, 1, 2, 6]), (4, [0, 1, 2, 6, 7])], true⟩
noncomputable def gIs : Env := g122.add 198 (fnE lesF)
theorem gIs_good : gIs.Good := g122_good.add lesE_ok
def hpIs (xs : List Int) : LHp := [(0, .arr 3 i64T 0 false xs)]
theorem iso_eqH (hl : Hl) (N : Int) (xs : List Int) : runH gIs Tryz.f192 6 [(1, [0, 1, 2, 6]), (4, [0, 1, 2, 6, 7])] [1, 4] hl [.os 0 0, I 0, I N] (hpIs xs) ah =
  hl (cL (cL (cR C_iso))) _ { fr := mkFr 6 [(0, AV.os 0 0), (1, I 0), (2, I N), (6, I 1)], hp := [(0, AObj.arr 3 (i64T) 0 false xs)], nx := 2 } (blkK 0 (endC Tryz.prog 1 Tryz.f192.results.toList ah)) := by kernel_rfl
theorem iso_eq (N : Int) (xs : List Int) : runC gIs Tryz.f192 6 [(1, [0, 1, 2, 6]), (4, [0, 1, 2, 6, 7])] [.os 0 0, I 0, I N] (hpIs xs) ah =
  (hlp gIs cf_iso) (cL (cL (cR C_iso))) _ { fr := mkFr 6 [(0, AV.os 0 0), (1, I 0), (2, I N), (6, I 1)], hp := [(0, AObj.arr 3 (i64T) 0 false xs)], nx := 2 } (blkK 0 (endC Tryz.prog 1 Tryz.f192.results.toList ah)) := runH_runC.trans (iso_eqH (hlp gIs cf_iso) N xs)
def stIs (N : Int) (xs : List Int) (fr : List (Nat × AV)) : LSt := { fr := mkFr 6 ([(0, AV.os 0 0), (1, I 0), (2, I N)] ++ fr), hp := hpIs xs, nx := 2 }
theorem iso_st0H (hl : Hl) (N i : Int) (xs : List Int) (n : Nat) {R : Type} (k : AEx → LSt → Option R) : lpH gIs cf_iso [1, 4] hl (cL (cL (cR C_iso))) (n + 1) (stIs N xs [(6, I i)]) k =
  bif decide (i < N) then hl (cL (cL (cR (cL (cL (cR (cL (cL (cR C_iso))))))))) _ { fr := mkFr 6 [(0, AV.os 0 0), (1, I 0), (2, I N), (6, I i), (7, I i)], hp := [(0, AObj.arr 3 (i64T) 0 false xs)], nx := 2 } (blkK 2 (blkK 1 (seqH gIs cf_iso [1, 4] hl (cR (cR (cL (cL (cR C_iso))))) (nxtH gIs cf_iso [1, 4] hl (cL (cL (cR C_iso))) n k))))
  else k (AEx.exit 0) { fr := mkFr 6 [(0, AV.os 0 0), (1, I 0), (2, I N), (6, I i), (10, I i), (11, I N), (12, B false)], hp := [(0, AObj.arr 3 (i64T) 0 false xs)], nx := 2 } := by kernel_rfl
theorem iso_st0 (N i : Int) (xs : List Int) (n : Nat) {R : Type} (k : AEx → LSt → Option R) : lp gIs cf_iso (cL (cL (cR C_iso))) (n + 1) (stIs N xs [(6, I i)]) k =
  bif decide (i < N) then (hlp gIs cf_iso) (cL (cL (cR (cL (cL (cR (cL (cL (cR C_iso))))))))) _ { fr := mkFr 6 [(0, AV.os 0 0), (1, I 0), (2, I N), (6, I i), (7, I i)], hp := [(0, AObj.arr 3 (i64T) 0 false xs)], nx := 2 } (blkK 2 (blkK 1 (seqH gIs cf_iso [1, 4] (hlp gIs cf_iso) (cR (cR (cL (cL (cR C_iso))))) (nxtH gIs cf_iso [1, 4] (hlp gIs cf_iso) (cL (cL (cR C_iso))) n k))))
  else k (AEx.exit 0) { fr := mkFr 6 [(0, AV.os 0 0), (1, I 0), (2, I N), (6, I i), (10, I i), (11, I N), (12, B false)], hp := [(0, AObj.arr 3 (i64T) 0 false xs)], nx := 2 } := by
  have h := iso_st0H (hlp gIs cf_iso) N i xs n k
  simp only [lpH_lp] at h
  exact h
theorem iso_st1H (hl : Hl) (N i j : Int) (xs : List Int) (n : Nat) {R : Type} (k : AEx → LSt → Option R) : lpH gIs cf_iso [1, 4] hl (cL (cL (cR (cL (cL (cR (cL (cL (cR C_iso))))))))) (n + 1) (stIs N xs [(6, I i), (7, I j)]) k =
  bif decide (j > 0) then (idx xs j).bind fun v1 =>
      (xs[j.toNat]?).bind fun v2 =>
        (idx xs (IntKind.i64.wrap (j - 1))).bind fun v3 =>
          (xs[(IntKind.i64.wrap (j - 1)).toNat]?).bind fun v4 =>
            bif decide (v2 < v4) then (idx xs (IntKind.i64.wrap (j - 1))).bind fun v6 =>
                (xs[(IntKind.i64.wrap (j - 1)).toNat]?).bind fun v7 =>
                  (idx xs j).bind fun v8 =>
                    (xs[j.toNat]?).bind fun v9 =>
                      (idx xs j).bind fun v10 =>
                        (setN xs j.toNat v7).bind fun v11 =>
                          (idx v11 (IntKind.i64.wrap (j - 1))).bind fun v12 =>
                            (setN v11 (IntKind.i64.wrap (j - 1)).toNat v9).bind fun v13 =>
                              lpH gIs cf_iso [1, 4] hl (cL (cL (cR (cL (cL (cR (cL (cL (cR C_iso))))))))) n { fr := mkFr 6 [(0, AV.os 0 0), (1, I 0), (2, I N), (6, I i), (7, I (IntKind.i64.wrap (j - 1)))], hp := [(0, AObj.arr 3 (i64T) 0 false v13)], nx := 2 } k
            else k (AEx.exit 2) { fr := mkFr 6 [(0, AV.os 0 0), (1, I 0), (2, I N), (6, I i), (7, I j), (16, I j), (17, I 0), (18, B (decide (j > 0))), (19, B true), (20, AV.os 0 0), (21, I j), (22, AV.oe 0 0 j.toNat), (23, I v2), (24, AV.os 0 0), (25, I j), (26, I (IntKind.i64.wrap (j - 1))), (27, AV.oe 0 0 (IntKind.i64.wrap (j - 1)).toNat), (28, I v4), (29, B (decide (v2 < v4))), (30, B false)], hp := [(0, AObj.arr 3 (i64T) 0 false xs)], nx := 2 }
  else k (AEx.exit 2) { fr := mkFr 6 [(0, AV.os 0 0), (1, I 0), (2, I N), (6, I i), (7, I j), (16, I j), (17, I 0), (18, B (decide (j > 0))), (19, B false), (20, AV.tup []), (21, AV.tup []), (22, AV.tup []), (23, AV.tup []), (24, AV.tup []), (25, AV.tup []), (26, AV.tup []), (27, AV.tup []), (28, AV.tup []), (29, AV.tup []), (30, B false)], hp := [(0, AObj.arr 3 (i64T) 0 false xs)], nx := 2 } := by kernel_rfl
theorem iso_st1 (N i j : Int) (xs : List Int) (n : Nat) {R : Type} (k : AEx → LSt → Option R) : lp gIs cf_iso (cL (cL (cR (cL (cL (cR (cL (cL (cR C_iso))))))))) (n + 1) (stIs N xs [(6, I i), (7, I j)]) k =
  bif decide (j > 0) then (idx xs j).bind fun v1 =>
      (xs[j.toNat]?).bind fun v2 =>
        (idx xs (IntKind.i64.wrap (j - 1))).bind fun v3 =>
          (xs[(IntKind.i64.wrap (j - 1)).toNat]?).bind fun v4 =>
            bif decide (v2 < v4) then (idx xs (IntKind.i64.wrap (j - 1))).bind fun v6 =>
                (xs[(IntKind.i64.wrap (j - 1)).toNat]?).bind fun v7 =>
                  (idx xs j).bind fun v8 =>
                    (xs[j.toNat]?).bind fun v9 =>
                      (idx xs j).bind fun v10 =>
                        (setN xs j.toNat v7).bind fun v11 =>
                          (idx v11 (IntKind.i64.wrap (j - 1))).bind fun v12 =>
                            (setN v11 (IntKind.i64.wrap (j - 1)).toNat v9).bind fun v13 =>
                              lp gIs cf_iso (cL (cL (cR (cL (cL (cR (cL (cL (cR C_iso))))))))) n { fr := mkFr 6 [(0, AV.os 0 0), (1, I 0), (2, I N), (6, I i), (7, I (IntKind.i64.wrap (j - 1)))], hp := [(0, AObj.arr 3 (i64T) 0 false v13)], nx := 2 } k
            else k (AEx.exit 2) { fr := mkFr 6 [(0, AV.os 0 0), (1, I 0), (2, I N), (6, I i), (7, I j), (16, I j), (17, I 0), (18, B (decide (j > 0))), (19, B true), (20, AV.os 0 0), (21, I j), (22, AV.oe 0 0 j.toNat), (23, I v2), (24, AV.os 0 0), (25, I j), (26, I (IntKind.i64.wrap (j - 1))), (27, AV.oe 0 0 (IntKind.i64.wrap (j - 1)).toNat), (28, I v4), (29, B (decide (v2 < v4))), (30, B false)], hp := [(0, AObj.arr 3 (i64T) 0 false xs)], nx := 2 }
  else k (AEx.exit 2) { fr := mkFr 6 [(0, AV.os 0 0), (1, I 0), (2, I N), (6, I i), (7, I j), (16, I j), (17, I 0), (18, B (decide (j > 0))), (19, B false), (20, AV.tup []), (21, AV.tup []), (22, AV.tup []), (23, AV.tup []), (24, AV.tup []), (25, AV.tup []), (26, AV.tup []), (27, AV.tup []), (28, AV.tup []), (29, AV.tup []), (30, B false)], hp := [(0, AObj.arr 3 (i64T) 0 false xs)], nx := 2 } := by
  have h := iso_st1H (hlp gIs cf_iso) N i j xs n k
  simp only [lpH_lp] at h
  exact h
noncomputable def KS1 {R : Type} (n : Nat) (k : AEx → LSt → Option R) : AEx → LSt → Option R := (blkK 2 (blkK 1 (seqH gIs cf_iso [1, 4] (hlp gIs cf_iso) (cR (cR (cL (cL (cR C_iso))))) (nxtH gIs cf_iso [1, 4] (hlp gIs cf_iso) (cL (cL (cR C_iso))) n k))))
def stX1 (N i j : Int) (a b : Int) (xs : List Int) : LSt := { fr := mkFr 6 [(0, AV.os 0 0), (1, I 0), (2, I N), (6, I i), (7, I j), (16, I j), (17, I 0), (18, B (decide (j > 0))), (19, B true), (20, AV.os 0 0), (21, I j), (22, AV.oe 0 0 j.toNat), (23, I a), (24, AV.os 0 0), (25, I j), (26, I (IntKind.i64.wrap (j - 1))), (27, AV.oe 0 0 (IntKind.i64.wrap (j - 1)).toNat), (28, I b), (29, B (decide (a < b))), (30, B false)], hp := hpIs xs, nx := 2 }
def stX2 (N i j : Int) (xs : List Int) : LSt := { fr := mkFr 6 [(0, AV.os 0 0), (1, I 0), (2, I N), (6, I i), (7, I j), (16, I j), (17, I 0), (18, B (decide (j > 0))), (19, B false), (20, AV.tup []), (21, AV.tup []), (22, AV.tup []), (23, AV.tup []), (24, AV.tup []), (25, AV.tup []), (26, AV.tup []), (27, AV.tup []), (28, AV.tup []), (29, AV.tup []), (30, B false)], hp := hpIs xs, nx := 2 }
theorem ks_x1 (N i j a b : Int) (xs : List Int) (n : Nat) {R : Type} (k : AEx → LSt → Option R) : KS1 n k (.exit 2) (stX1 N i j a b xs) = lp gIs cf_iso (cL (cL (cR C_iso))) n (stIs N xs [(6, I (IntKind.i64.wrap (i + 1)))]) k :=
  Eq.trans (b := lpH gIs cf_iso [1, 4] (hlp gIs cf_iso) (cL (cL (cR C_iso))) n (stIs N xs [(6, I (IntKind.i64.wrap (i + 1)))]) k) (by kernel_rfl) lpH_lp
theorem ks_x2 (N i j : Int) (xs : List Int) (n : Nat) {R : Type} (k : AEx → LSt → Option R) : KS1 n k (.exit 2) (stX2 N i j xs) = lp gIs cf_iso (cL (cL (cR C_iso))) n (stIs N xs [(6, I (IntKind.i64.wrap (i + 1)))]) k :=
  Eq.trans (b := lpH gIs cf_iso [1, 4] (hlp gIs cf_iso) (cL (cL (cR C_iso))) n (stIs N xs [(6, I (IntKind.i64.wrap (i + 1)))]) k) (by kernel_rfl) lpH_lp
noncomputable def KS0 : AEx → LSt → Option (AEnd × LHp) := (blkK 0 (endC Tryz.prog 1 Tryz.f192.results.toList ah))
theorem ks_end (N i : Int) (xs : List Int) : KS0 (.exit 0) { fr := mkFr 6 [(0, AV.os 0 0), (1, I 0), (2, I N), (6, I i), (10, I i), (11, I N), (12, B false)], hp := hpIs xs, nx := 2 } = some (.ret [], hpIs xs) := by kernel_rfl
end Go.Proofs.XGT
namespace Go.Proofs.XGT
open Go.Vm Go
set_option maxRecDepth 100000
set_option maxHeartbeats 1000000
theorem countE_mk {xs : List Int} (h1 : ∀ x ∈ xs, 1 ≤ x) (h2 : xs.length ≤ 6) (h3 : prodI xs ≤ 65536) : countE xs = 0 ∧ countN xs = prodI xs := by
  have e1 : decide (idxP (fun d => decide (d < 1)) xs ≥ 0) = false := by
    rw [idxP_ge, List.any_eq_false]
    intro x hx
    have := h1 x hx
    simp only [decide_eq_true_eq]
    omega
  have e2 : decide (Int.ofNat xs.length > 6) = false := decide_eq_false (by simp only [Int.ofNat_eq_natCast]; omega)
  have e3 : bigI xs = false := by
    unfold bigI
    exact decide_eq_false (by omega)
  unfold countE countN
  rw [e1, e2, e3]
  exact ⟨rfl, rfl⟩
theorem tenE_mk {t : Int} {xd dt : List Int} (h1 : numOk t 0 = true) (h2 : countE xd = 0) (h3 : (dt.length : Int) = countN xd) (h4 : ∀ x ∈ dt, numOk t x = true) : tenE t xd dt = 0 := by
  unfold tenE
  rw [h1, h2, show (Int.ofNat dt.length != countN xd) = false by rw [bne_eq_false_iff_eq]; exact h3, List.any_eq_false.2 (fun x hx => by rw [h4 x hx]; simp)]
  rfl
/-- what is known where a product is made -/
structure Ok2 (t1 t2 : Int) (M K N : Nat) (x y : List Int) : Prop where
  m1 : 1 ≤ M
  k1 : 1 ≤ K
  n1 : 1 ≤ N
  hmk : M * K ≤ 65536
  hkn : K * N ≤ 65536
  hmn : M * N ≤ 65536
  lx : x.length = M * K
  ly : y.length = K * N
  e1 : t1 = 1
  e2 : t2 = 1
  nx : ∀ v ∈ x, numOk 1 v = true
  tx : tenE t1 [(M : Int), K] x = 0
  ty : tenE t2 [(K : Int), N] y = 0
end Go.Proofs.XGT
namespace Go.Proofs.XGT
open Go.Vm Go
set_option maxRecDepth 100000
set_option maxHeartbeats 1000000
theorem tab_succ (n : Nat) (f : Nat → Int) : tab (n + 1) f = tab n f ++ [f n] := by
  unfold tab
  rw [List.range_succ, List.map_append]
  rfl
theorem getV {l : List Int} {p : Nat} (h : p < l.length) : idx l (p : Int) = some (l.getD p 0) ∧ l[p]? = some (l.getD p 0) := by
  have e : l[p]? = some (l.getD p 0) := by rw [List.getD_eq_getElem?_getD, List.getElem?_eq_getElem h]; rfl
  exact ⟨by unfold idx; rw [if_pos (by omega), Int.toNat_natCast, e], e⟩
theorem app_one {xs : List Int} {y : Int} (h : xs.length ≤ 65536) : app xs [y] = some (xs ++ [y]) := by
  unfold app
  rw [if_pos (by unfold lim; simp only [List.length_cons, List.length_nil]; omega)]
def f2V (l : List Int) (o v s u : Nat) (q : Nat) : Int := l.getD (o + q / v * s + q % v * u) 0
end Go.Proofs.XGT
namespace Go.Proofs.XGT
open Go.Vm Go
set_option maxRecDepth 100000
set_option maxHeartbeats 1000000
theorem tab_setN {N j : Nat} {g : Nat → Int} {v : Int} (h : j < N) : setN (tab N g) j v = some (tab N fun m => if m = j then v else g m) := by
  unfold setN
  rw [tab_length, show Nat.blt j N = true from Nat.ble_eq_true_of_le h, cond_true]
  congr 1
  apply List.ext_getElem?
  intro m
  rw [List.getElem?_set]
  by_cases hm : m < N
  · have e1 : (tab N g)[m]? = some (g m) := tab_get hm
    have e2 : (tab N fun m => if m = j then v else g m)[m]? = some (if m = j then v else g m) := tab_get hm
    rw [e1, e2]
    by_cases e : j = m
    · rw [if_pos e, tab_length, if_pos (by omega), if_pos e.symm]
    · rw [if_neg e, if_neg (fun h => e h.symm)]
  · rw [List.getElem?_eq_none (l := tab N fun m => if m = j then v else g m) (by rw [tab_length]; omega)]
    by_cases e : j = m
    · omega
    · rw [if_neg e, List.getElem?_eq_none (by rw [tab_length]; omega)]
theorem tab_idx {N j : Nat} {g : Nat → Int} (h : j < N) : idx (tab N g) (j : Int) = some (g j) := by
  unfold idx
  rw [if_pos (by omega), Int.toNat_natCast, tab_get h]
/-- g is an order of 0 .. N - 1 -/
def Ord (N : Nat) (g : Nat → Int) : Prop := (∀ m, m < N → 0 ≤ g m ∧ g m < N) ∧ ∀ a b, a < N → b < N → g a = g b → a = b
def tau (j m : Nat) : Nat := if m = j then j + 1 else if m = j + 1 then j else m
def swp (j : Nat) (g : Nat → Int) : Nat → Int := fun m => g (tau j m)
theorem tau_lt {N j m : Nat} (hj : j + 1 < N) (hm : m < N) : tau j m < N := by
  unfold tau
  split
  · exact hj
  · split <;> omega
theorem tau_inj {j a b : Nat} (h : tau j a = tau j b) : a = b := by
  unfold tau at h
  split at h <;> split at h <;> (try split at h) <;> (try split at h) <;> omega
theorem swp_ord {N j : Nat} {g : Nat → Int} (h : Ord N g) (hj : j + 1 < N) : Ord N (swp j g) :=
  ⟨fun m hm => h.1 _ (tau_lt hj hm), fun _ _ ha hb e => tau_inj (h.2 _ _ (tau_lt hj ha) (tau_lt hj hb) e)⟩
def SB (i j : Nat) (g : Nat → Int) : Prop := ∀ a b, a < b → b ≤ i → b ≠ j → g a ≤ g b
theorem swp_sb {i j : Nat} {g : Nat → Int} (h : SB i (j + 1) g) (hji : j + 1 ≤ i) (hlt : g (j + 1) < g j) : SB i j (swp j g) := by
  intro a b hab hb hbj
  show g (tau j a) ≤ g (tau j b)
  by_cases h1 : b = j + 1
  · have e : tau j b = j := by unfold tau; rw [if_neg hbj, if_pos h1]
    rw [e]
    by_cases h2 : a = j
    · have e2 : tau j a = j + 1 := by unfold tau; rw [if_pos h2]
      rw [e2]
      omega
    · have e2 : tau j a = a := by unfold tau; rw [if_neg h2, if_neg (by omega)]
      rw [e2]
      exact h a j (by omega) (by omega) (by omega)
  · have e : tau j b = b := by unfold tau; rw [if_neg hbj, if_neg h1]
    rw [e]
    by_cases h2 : a = j
    · have e2 : tau j a = j + 1 := by unfold tau; rw [if_pos h2]
      rw [e2]
      exact h (j + 1) b (by omega) hb h1
    · by_cases h3 : a = j + 1
      · have e2 : tau j a = j := by unfold tau; rw [if_neg h2, if_pos h3]
        rw [e2]
        exact h j b (by omega) hb h1
      · have e2 : tau j a = a := by unfold tau; rw [if_neg h2, if_neg h3]
        rw [e2]
        exact h a b hab hb h1
section
variable {N : Nat} {R : Type} {k : AEx → LSt → Option R}
theorem is_in (hN : N ≤ 65536) {i m : Nat} (hi : i < N) : ∀ (j : Nat) (g : Nat → Int) (n : Nat), j ≤ i → SB i j g → Ord N g → j < n →
    ∃ g', (∀ a b, a < b → b ≤ i → g' a ≤ g' b) ∧ Ord N g' ∧ lp gIs cf_iso (cL (cL (cR (cL (cL (cR (cL (cL (cR C_iso))))))))) n (stIs N (tab N g) [(6, I i), (7, I (j : Nat))]) (KS1 m k) = lp gIs cf_iso (cL (cL (cR C_iso))) m (stIs N (tab N g') [(6, I (IntKind.i64.wrap ((i : Int) + 1)))]) k := by
  intro j
  induction j with
  | zero =>
    intro g n _ hS hO hn
    obtain ⟨n, rfl⟩ : ∃ m', n = m' + 1 := ⟨n - 1, by omega⟩
    refine ⟨g, fun a b hab hb => hS a b hab hb (by omega), hO, ?_⟩
    rw [iso_st1, decide_eq_false (show ¬ (((0 : Nat) : Int) > 0) by omega), cond_false]
    exact ks_x2 N i ((0 : Nat) : Int) (tab N g) m k
  | succ j ih =>
    intro g n hj hS hO hn
    obtain ⟨n, rfl⟩ : ∃ m', n = m' + 1 := ⟨n - 1, by omega⟩
    have w : IntKind.i64.wrap (((j + 1 : Nat) : Int) - 1) = (j : Int) := by rw [wrap64 (by omega) (by omega)]; omega
    have i1 : idx (tab N g) ((j + 1 : Nat) : Int) = some (g (j + 1)) := tab_idx (by omega)
    have i2 : idx (tab N g) (j : Int) = some (g j) := tab_idx (by omega)
    have g1 : (tab N g)[((j + 1 : Nat) : Int).toNat]? = some (g (j + 1)) := by rw [Int.toNat_natCast]; exact tab_get (by omega)
    have g2 : (tab N g)[(j : Int).toNat]? = some (g j) := by rw [Int.toNat_natCast]; exact tab_get (by omega)
    have st := iso_st1 (N : Int) (i : Int) ((j + 1 : Nat) : Int) (tab N g) n (KS1 m k)
    rw [decide_eq_true (show ((j + 1 : Nat) : Int) > 0 by omega), cond_true, i1, Option.bind_some, g1, Option.bind_some] at st
    by_cases hlt : g (j + 1) < g j
    · obtain ⟨g', p1, p2, p3⟩ := ih (swp j g) n (by omega) (swp_sb hS hj hlt) (swp_ord hO (by omega)) (by omega)
      refine ⟨g', p1, p2, st.trans (Eq.trans ?_ p3)⟩
      have s1 : setN (tab N g) ((j + 1 : Nat) : Int).toNat (g j) = some (tab N fun m => if m = j + 1 then g j else g m) := by rw [Int.toNat_natCast]; exact tab_setN (by omega)
      have s2 : setN (tab N fun m => if m = j + 1 then g j else g m) (j : Int).toNat (g (j + 1)) = some (tab N (swp j g)) := by
        rw [Int.toNat_natCast, tab_setN (by omega)]
        congr 1
        apply tab_congr
        intro q _
        show (if q = j then g (j + 1) else if q = j + 1 then g j else g q) = g (tau j q)
        unfold tau
        by_cases e1 : q = j
        · rw [if_pos e1, if_pos e1]
        · rw [if_neg e1, if_neg e1]
          by_cases e2 : q = j + 1
          · rw [if_pos e2, if_pos e2]
          · rw [if_neg e2, if_neg e2]
      have i3 : idx (tab N fun m => if m = j + 1 then g j else g m) (j : Int) = some (if j = j + 1 then g j else g j) := tab_idx (g := fun m => if m = j + 1 then g j else g m) (by omega)
      simp only [w, i2, g2, Option.bind_some, decide_eq_true hlt, cond_true, s1, i3, s2]
      rfl
    · refine ⟨g, fun a b hab hb => ?_, hO, st.trans ?_⟩
      · by_cases e : b = j + 1
        · subst e
          by_cases e2 : a = j
          · subst e2; omega
          · have := hS a j (by omega) (by omega) (by omega)
            omega
        · exact hS a b hab hb e
      · simp only [w, i2, g2, Option.bind_some, decide_eq_false hlt, cond_false]
        have x := ks_x1 N i ((j + 1 : Nat) : Int) (g (j + 1)) (g j) (tab N g) m k
        unfold stX1 at x
        rw [w, decide_eq_false hlt, decide_eq_true (show ((j + 1 : Nat) : Int) > 0 by omega)] at x
        exact x
theorem is_out (hN : N ≤ 65536) : ∀ (r i : Nat) (g : Nat → Int) (n : Nat), N ≤ i + r → i ≤ N + 1 → (∀ a b, a < b → b < i → b < N → g a ≤ g b) → Ord N g → r < n →
    ∃ g', (∀ a b, a < b → b < N → g' a ≤ g' b) ∧ Ord N g' ∧ lp gIs cf_iso (cL (cL (cR C_iso))) n (stIs N (tab N g) [(6, I (i : Nat))]) KS0 = some (.ret [], hpIs (tab N g')) := by
  have hf : fu = 18446744073709551616 := rfl
  have done : ∀ (i : Nat) (g : Nat → Int) (n : Nat), ¬ i < N → lp gIs cf_iso (cL (cL (cR C_iso))) (n + 1) (stIs N (tab N g) [(6, I (i : Nat))]) KS0 = some (.ret [], hpIs (tab N g)) := by
    intro i g n h
    rw [iso_st0, decide_eq_false (show ¬ ((i : Int) < (N : Int)) by omega), cond_false]
    exact ks_end N i (tab N g)
  intro r
  induction r with
  | zero =>
    intro i g n h1 h2 h3 h4 hn
    obtain ⟨n, rfl⟩ : ∃ m', n = m' + 1 := ⟨n - 1, by omega⟩
    exact ⟨g, fun a b hab hb => h3 a b hab (by omega) hb, h4, done i g n (by omega)⟩
  | succ r ih =>
    intro i g n h1 h2 h3 h4 hn
    obtain ⟨n, rfl⟩ : ∃ m', n = m' + 1 := ⟨n - 1, by omega⟩
    by_cases hi : i < N
    · obtain ⟨g1, p1, p2, p3⟩ := is_in (k := KS0) (m := n) hN hi i g fu (Nat.le_refl _) (fun a b hab hb hbi => h3 a b hab (by omega) (by omega)) h4 (by omega)
      obtain ⟨g', q1, q2, q3⟩ := ih (i + 1) g1 n (by omega) (by omega) (fun a b hab hb _ => p1 a b hab (by omega)) p2 (by omega)
      have e0 : IntKind.i64.wrap ((i : Int) + 1) = ((i + 1 : Nat) : Int) := by rw [wrap64 (by omega) (by omega)]; omega
      refine ⟨g', q1, q2, ?_⟩
      rw [e0] at p3
      rw [iso_st0, decide_eq_true (show ((i : Int) < (N : Int)) by omega), cond_true]
      exact Eq.trans (b := lp gIs cf_iso (cL (cL (cR (cL (cL (cR (cL (cL (cR C_iso))))))))) fu (stIs N (tab N g) [(6, I (i : Nat)), (7, I (i : Nat))]) (KS1 n KS0)) (by kernel_rfl) (p3.trans q3)
    · exact ⟨g, fun a b hab hb => h3 a b hab (by omega) hb, h4, done i g n hi⟩
end
theorem ord_id {N : Nat} {g : Nat → Int} (hs : ∀ a b, a < b → b < N → g a ≤ g b) (h : Ord N g) : ∀ m, m < N → g m = m := by
  have str : ∀ a b, a < b → b < N → g a < g b := fun a b hab hb => by
    have h1 := hs a b hab hb
    have h2 : g a ≠ g b := fun e => by have := h.2 a b (by omega) hb e; omega
    omega
  have low : ∀ m, m < N → (m : Int) ≤ g m := by
    intro m
    induction m with
    | zero => intro hm; exact (h.1 0 hm).1
    | succ m ih =>
      intro hm
      have h1 := ih (by omega)
      have h2 := str m (m + 1) (by omega) hm
      omega
  have up : ∀ r m, m + r + 1 = N → g m ≤ (m : Int) := by
    intro r
    induction r with
    | zero => intro m hm; have := (h.1 m (by omega)).2; omega
    | succ r ih =>
      intro m hm
      have h1 := ih (m + 1) (by omega)
      have h2 := str m (m + 1) (by omega) (by omega)
      omega
  intro m hm
  have h1 := low m hm
  have h2 := up (N - 1 - m) m (by omega)
  omega
theorem iso_run {N : Nat} (hN : N ≤ 65536) {g : Nat → Int} (h : Ord N g) : runC gIs Tryz.f192 6 [(1, [0, 1, 2, 6]), (4, [0, 1, 2, 6, 7])] [.os 0 0, I 0, I N] (hpIs (tab N g)) ah = some (.ret [], hpIs (tab N fun m => (m : Int))) := by
  have hf : fu = 18446744073709551616 := rfl
  obtain ⟨g', p1, p2, p3⟩ := is_out hN N 1 g fu (by omega) (by omega) (fun a b hab hb _ => by omega) h (by omega)
  have e : tab N g' = tab N fun m => (m : Int) := tab_congr fun m hm => ord_id p1 p2 m hm
  rw [e] at p3
  exact Eq.trans (b := lp gIs cf_iso (cL (cL (cR C_iso))) fu (stIs N (tab N g) [(6, I ((1 : Nat) : Int))]) KS0) ((iso_eq N (tab N g)).trans (by kernel_rfl)) p3
end Go.Proofs.XGT
namespace Go.Proofs.XGT
open Go.Vm Go
set_option maxRecDepth 100000
set_option maxHeartbeats 4000000
noncomputable def C_reb : Code := codeOf Tryz.f79
noncomputable def cf_reb : Cfg := ⟨26, 5, 2, [(5, [0, 1, 2, 3, 4, 5, 6, 14, 15, 16, 17, 18, 19, 20, 21, 22, 23, 24])], true⟩
noncomputable def C_plb : Code := codeOf Tryz.f132
noncomputable def cf_plb : Cfg := ⟨63, 6, 9, [(2, [0, 1, 3, 4]), (4, [0, 1, 3, 4, 5])], true⟩
def vwB (off : Int) (a b : Nat) : AV := .pr (I off) (.pr (.os a 0) (.pr (.os b 0) (.d .unit ())))
def frVb (off : Int) (l : List Int) : Tr := mkFr 5 [(0, vwB off 1 0), (1, .d (.slice i64T) l), (2, .op 2 [] 0), (3, .op 3 [] 0), (4, .op 4 [] 0), (5, .op 5 [] 0), (6, .op 8 [] 0), (8, vwB off 1 0), (9, B true), (10, B false), (11, vwB off 1 0), (12, .fn (.func 132) [] [.op 9 [] 0])]
def hpVb (off : Int) (ds ss l : List Int) : LHp := [(0, .arr 3 i64T 0 false ss), (1, .arr 3 i64T 0 false ds), (9, .box (vwB off 1 0)), (8, .box .nils), (0, .arr 3 i64T 0 false ss), (1, .arr 3 i64T 0 false ds), (5, .box (I 0)), (4, .box .nils), (3, .box (.d (.slice i64T) l)), (2, .box (vwB off 1 0)), (0, .arr 3 i64T 0 false ss), (1, .arr 3 i64T 0 false ds)]
def rfLw (cf : Cfg) : Code → LoopC
  | .rangeFunc _ ps a b => ⟨cf.depth, ps, a, b, cf.n⟩
  | _ => ⟨0, #[], .skip, .skip, 0⟩
noncomputable def LC_reb : LoopC := rfLw cf_reb (cL (cR (cL (cR (cR (cR C_reb))))))
def frecVb (off : Int) (l : List Int) : List (Nat × AV) := [(0, vwB off 7 6), (1, .d (.slice i64T) l), (2, .op 5 [] 0), (3, .op 4 [] 0), (4, .op 3 [] 0), (5, .op 2 [] 0), (6, .op 1 [] 0)]
noncomputable def hpYb (off : Int) (ds ss l : List Int) (o : AV) : LHp := [(0, .box (vwB off 7 6)), (1, .box o), (2, .box (I 0)), (3, .box .nils), (4, .box (.d (.slice i64T) l)), (5, .box (vwB off 7 6)), (6, .arr 3 i64T 0 false ss), (7, .arr 3 i64T 0 false ds), (8, .rc (.loop LC_reb (frecVb off l) .ready))]
noncomputable def frecVbT (off : Int) (l : List Int) : List (Nat × AV) := slotsF ⟨frVb off l, [], 0⟩ (loopLive cf_reb LC_reb.assign)
noncomputable def hpVb2 (off : Int) (ds ss l : List Int) : LHp := (12, .rc (.loop LC_reb (frecVbT off l) .ready)) :: hpVb off ds ss l
noncomputable def hpYbW (off : Int) (ds ss l out : List Int) : LHp := [(0, .box (vwB off 7 6)), (7, .arr 3 i64T 0 false ds), (6, .arr 3 i64T 0 false ss), (1, .box (.os 9 0)), (9, .arr 2 i64T 0 false out), (2, .box (I 0)), (3, .box .nils), (4, .box (.d (.slice i64T) l)), (5, .box (vwB off 7 6)), (8, .rc (.loop LC_reb (frecVb off l) .ready))]
noncomputable def stVb (at_ : Nat) (off : Int) (ds ss l A : List Int) (p : Int) (nx : Nat) (o : AV) (oh : LHp) : LSt := ⟨mkFr 6 [(0, .ref 8), (1, .op 0 [] 0), (3, .os at_ 0), (4, I p)], [(0, .box (vwB off 7 6)), (7, .arr 3 i64T 0 false ds), (6, .arr 3 i64T 0 false ss), (1, .box o)] ++ oh ++ [(2, .box (I 0)), (3, .box .nils), (4, .box (.d (.slice i64T) l)), (5, .box (vwB off 7 6)), (8, .rc (.loop LC_reb (frecVb off l) .ready)), (at_, .arr 3 i64T 0 false A)], nx⟩
noncomputable def stVb0 (off : Int) (ds ss l A : List Int) (p : Int) : LSt := stVb 9 off ds ss l A p 19 .nils []
noncomputable def stVb1 (off : Int) (ds ss l A : List Int) (p : Int) (out : List Int) : LSt := stVb 10 off ds ss l A p 20 (.os 9 0) [(9, .arr 2 i64T 0 false out)]
noncomputable def WKb : AEx → LSt → Option (AEnd × LHp) := (blkK 0 (endC Tryz.prog 9 Tryz.f132.results.toList ah))
end Go.Proofs.XGT
namespace Go.Proofs.XGT
open Go.Vm Go
set_option maxRecDepth 100000
set_option maxHeartbeats 4000000
theorem plb_eqGH (hl : Hl) (off : Int) (ds ss l : List Int) : runH g163 Tryz.f132 6 [(2, [0, 1, 3, 4]), (4, [0, 1, 3, 4, 5])] [2, 4] hl [.ref 8, .op 0 [] 0] (hpYb off ds ss l .nils) ah =
  (if 0 ≤ Int.ofNat ds.length ∧ Int.ofNat ds.length ≤ 4294967296 then some (List.replicate (Int.ofNat ds.length).toNat 0) else none).bind fun v0 =>
    hl (cL (cL (cR (cR C_plb)))) _ { fr := mkFr 6 [(0, AV.ref 8), (1, AV.op 0 [] 0), (3, AV.os 9 0), (4, I off)], hp := [(0, AObj.box ((I off).pr ((AV.os 7 0).pr ((AV.os 6 0).pr (AV.d Ty.unit PUnit.unit))))), (7, AObj.arr 3 (i64T) 0 false ds), (6, AObj.arr 3 (i64T) 0 false ss), (1, AObj.box AV.nils), (2, AObj.box (I 0)), (3, AObj.box AV.nils), (4, AObj.box (AV.d (i64T).slice l)), (5, AObj.box ((I off).pr ((AV.os 7 0).pr ((AV.os 6 0).pr (AV.d Ty.unit PUnit.unit))))), (8, AObj.rc (ARec.loop LC_reb [(0, (I off).pr ((AV.os 7 0).pr ((AV.os 6 0).pr (AV.d Ty.unit PUnit.unit)))), (1, AV.d (i64T).slice l), (2, AV.op 5 [] 0), (3, AV.op 4 [] 0), (4, AV.op 3 [] 0), (5, AV.op 2 [] 0), (6, AV.op 1 [] 0)] LSta.ready)), (9, AObj.arr 3 (i64T) 0 false v0)], nx := 19 } (blkK 0 (endC Tryz.prog 9 Tryz.f132.results.toList ah)) := by kernel_rfl
theorem plb_eqG (off : Int) (ds ss l : List Int) : runC g163 Tryz.f132 6 [(2, [0, 1, 3, 4]), (4, [0, 1, 3, 4, 5])] [.ref 8, .op 0 [] 0] (hpYb off ds ss l .nils) ah =
  (if 0 ≤ Int.ofNat ds.length ∧ Int.ofNat ds.length ≤ 4294967296 then some (List.replicate (Int.ofNat ds.length).toNat 0) else none).bind fun v0 =>
    (hlp g163 cf_plb) (cL (cL (cR (cR C_plb)))) _ { fr := mkFr 6 [(0, AV.ref 8), (1, AV.op 0 [] 0), (3, AV.os 9 0), (4, I off)], hp := [(0, AObj.box ((I off).pr ((AV.os 7 0).pr ((AV.os 6 0).pr (AV.d Ty.unit PUnit.unit))))), (7, AObj.arr 3 (i64T) 0 false ds), (6, AObj.arr 3 (i64T) 0 false ss), (1, AObj.box AV.nils), (2, AObj.box (I 0)), (3, AObj.box AV.nils), (4, AObj.box (AV.d (i64T).slice l)), (5, AObj.box ((I off).pr ((AV.os 7 0).pr ((AV.os 6 0).pr (AV.d Ty.unit PUnit.unit))))), (8, AObj.rc (ARec.loop LC_reb [(0, (I off).pr ((AV.os 7 0).pr ((AV.os 6 0).pr (AV.d Ty.unit PUnit.unit)))), (1, AV.d (i64T).slice l), (2, AV.op 5 [] 0), (3, AV.op 4 [] 0), (4, AV.op 3 [] 0), (5, AV.op 2 [] 0), (6, AV.op 1 [] 0)] LSta.ready)), (9, AObj.arr 3 (i64T) 0 false v0)], nx := 19 } (blkK 0 (endC Tryz.prog 9 Tryz.f132.results.toList ah)) := runH_runC.trans (plb_eqGH (hlp g163 cf_plb) off ds ss l)
theorem bG_st0H (hl : Hl) (off : Int) (ds ss l A : List Int) (p : Int) (n : Nat) {R : Type} (k : AEx → LSt → Option R) : lpH g163 cf_plb [2, 4] hl (cL (cL (cR (cR C_plb)))) (n + 1) (stVb0 off ds ss l A p) k =
  bif decide (p ≥ Int.ofNat l.length) then k AEx.ret { fr := mkFr 6 [(0, AV.ref 8), (1, AV.op 0 [] 0), (3, AV.os 9 0), (4, I p), (12, AV.ref 8), (13, I p), (14, B false), (15, B true)], hp := [(1, AObj.box AV.nils), (2, AObj.box (I 1)), (3, AObj.box AV.nils), (4, AObj.box (AV.d (i64T).slice l)), (5, AObj.box ((I off).pr ((AV.os 7 0).pr ((AV.os 6 0).pr (AV.d Ty.unit PUnit.unit))))), (6, AObj.arr 3 (i64T) 0 false ss), (7, AObj.arr 3 (i64T) 0 false ds), (8, AObj.rc (ARec.loop LC_reb [(0, (I off).pr ((AV.os 7 0).pr ((AV.os 6 0).pr (AV.d Ty.unit PUnit.unit)))), (1, AV.d (i64T).slice l), (2, AV.op 5 [] 0), (3, AV.op 4 [] 0), (4, AV.op 3 [] 0), (5, AV.op 2 [] 0), (6, AV.op 1 [] 0)] (LSta.done Jmp.ret))), (0, AObj.box ((I off).pr ((AV.os 7 0).pr ((AV.os 6 0).pr (AV.d Ty.unit PUnit.unit))))), (7, AObj.arr 3 (i64T) 0 false ds), (6, AObj.arr 3 (i64T) 0 false ss), (1, AObj.box AV.nils), (2, AObj.box (I 0)), (3, AObj.box AV.nils), (4, AObj.box (AV.d (i64T).slice l)), (5, AObj.box ((I off).pr ((AV.os 7 0).pr ((AV.os 6 0).pr (AV.d Ty.unit PUnit.unit))))), (8, AObj.rc (ARec.loop LC_reb [(0, (I off).pr ((AV.os 7 0).pr ((AV.os 6 0).pr (AV.d Ty.unit PUnit.unit)))), (1, AV.d (i64T).slice l), (2, AV.op 5 [] 0), (3, AV.op 4 [] 0), (4, AV.op 3 [] 0), (5, AV.op 2 [] 0), (6, AV.op 1 [] 0)] LSta.ready)), (9, AObj.arr 3 (i64T) 0 false A)], nx := 27 }
  else (idx l p).bind fun v1 =>
      hl (cL (cL (cL (cR (cR (cL (cL (cL (cR (cR C_plb)))))))))) _ { fr := mkFr 6 [(0, AV.ref 8), (1, AV.op 0 [] 0), (3, AV.os 10 0), (4, I p), (5, I (IntKind.i64.wrap (Int.ofNat A.length - 1)))], hp := [(0, AObj.box ((I off).pr ((AV.os 7 0).pr ((AV.os 6 0).pr (AV.d Ty.unit PUnit.unit))))), (7, AObj.arr 3 (i64T) 0 false ds), (6, AObj.arr 3 (i64T) 0 false ss), (1, AObj.box (AV.os 9 0)), (9, AObj.arr 2 (i64T) 0 false [v1]), (2, AObj.box (I 0)), (3, AObj.box AV.nils), (4, AObj.box (AV.d (i64T).slice l)), (5, AObj.box ((I off).pr ((AV.os 7 0).pr ((AV.os 6 0).pr (AV.d Ty.unit PUnit.unit))))), (8, AObj.rc (ARec.loop LC_reb [(0, (I off).pr ((AV.os 7 0).pr ((AV.os 6 0).pr (AV.d Ty.unit PUnit.unit)))), (1, AV.d (i64T).slice l), (2, AV.op 5 [] 0), (3, AV.op 4 [] 0), (4, AV.op 3 [] 0), (5, AV.op 2 [] 0), (6, AV.op 1 [] 0)] LSta.ready)), (10, AObj.arr 3 (i64T) 0 false A)], nx := 20 } (blkK 2 (seqH g163 cf_plb [2, 4] hl (cR (cR (cR (cL (cL (cL (cR (cR C_plb)))))))) (blkK 1 (nxtH g163 cf_plb [2, 4] hl (cL (cL (cR (cR C_plb)))) n k)))) := by kernel_rfl
theorem bG_st0 (off : Int) (ds ss l A : List Int) (p : Int) (n : Nat) {R : Type} (k : AEx → LSt → Option R) : lp g163 cf_plb (cL (cL (cR (cR C_plb)))) (n + 1) (stVb0 off ds ss l A p) k =
  bif decide (p ≥ Int.ofNat l.length) then k AEx.ret { fr := mkFr 6 [(0, AV.ref 8), (1, AV.op 0 [] 0), (3, AV.os 9 0), (4, I p), (12, AV.ref 8), (13, I p), (14, B false), (15, B true)], hp := [(1, AObj.box AV.nils), (2, AObj.box (I 1)), (3, AObj.box AV.nils), (4, AObj.box (AV.d (i64T).slice l)), (5, AObj.box ((I off).pr ((AV.os 7 0).pr ((AV.os 6 0).pr (AV.d Ty.unit PUnit.unit))))), (6, AObj.arr 3 (i64T) 0 false ss), (7, AObj.arr 3 (i64T) 0 false ds), (8, AObj.rc (ARec.loop LC_reb [(0, (I off).pr ((AV.os 7 0).pr ((AV.os 6 0).pr (AV.d Ty.unit PUnit.unit)))), (1, AV.d (i64T).slice l), (2, AV.op 5 [] 0), (3, AV.op 4 [] 0), (4, AV.op 3 [] 0), (5, AV.op 2 [] 0), (6, AV.op 1 [] 0)] (LSta.done Jmp.ret))), (0, AObj.box ((I off).pr ((AV.os 7 0).pr ((AV.os 6 0).pr (AV.d Ty.unit PUnit.unit))))), (7, AObj.arr 3 (i64T) 0 false ds), (6, AObj.arr 3 (i64T) 0 false ss), (1, AObj.box AV.nils), (2, AObj.box (I 0)), (3, AObj.box AV.nils), (4, AObj.box (AV.d (i64T).slice l)), (5, AObj.box ((I off).pr ((AV.os 7 0).pr ((AV.os 6 0).pr (AV.d Ty.unit PUnit.unit))))), (8, AObj.rc (ARec.loop LC_reb [(0, (I off).pr ((AV.os 7 0).pr ((AV.os 6 0).pr (AV.d Ty.unit PUnit.unit)))), (1, AV.d (i64T).slice l), (2, AV.op 5 [] 0), (3, AV.op 4 [] 0), (4, AV.op 3 [] 0), (5, AV.op 2 [] 0), (6, AV.op 1 [] 0)] LSta.ready)), (9, AObj.arr 3 (i64T) 0 false A)], nx := 27 }
  else (idx l p).bind fun v1 =>
      (hlp g163 cf_plb) (cL (cL (cL (cR (cR (cL (cL (cL (cR (cR C_plb)))))))))) _ { fr := mkFr 6 [(0, AV.ref 8), (1, AV.op 0 [] 0), (3, AV.os 10 0), (4, I p), (5, I (IntKind.i64.wrap (Int.ofNat A.length - 1)))], hp := [(0, AObj.box ((I off).pr ((AV.os 7 0).pr ((AV.os 6 0).pr (AV.d Ty.unit PUnit.unit))))), (7, AObj.arr 3 (i64T) 0 false ds), (6, AObj.arr 3 (i64T) 0 false ss), (1, AObj.box (AV.os 9 0)), (9, AObj.arr 2 (i64T) 0 false [v1]), (2, AObj.box (I 0)), (3, AObj.box AV.nils), (4, AObj.box (AV.d (i64T).slice l)), (5, AObj.box ((I off).pr ((AV.os 7 0).pr ((AV.os 6 0).pr (AV.d Ty.unit PUnit.unit))))), (8, AObj.rc (ARec.loop LC_reb [(0, (I off).pr ((AV.os 7 0).pr ((AV.os 6 0).pr (AV.d Ty.unit PUnit.unit)))), (1, AV.d (i64T).slice l), (2, AV.op 5 [] 0), (3, AV.op 4 [] 0), (4, AV.op 3 [] 0), (5, AV.op 2 [] 0), (6, AV.op 1 [] 0)] LSta.ready)), (10, AObj.arr 3 (i64T) 0 false A)], nx := 20 } (blkK 2 (seqH g163 cf_plb [2, 4] (hlp g163 cf_plb) (cR (cR (cR (cL (cL (cL (cR (cR C_plb)))))))) (blkK 1 (nxtH g163 cf_plb [2, 4] (hlp g163 cf_plb) (cL (cL (cR (cR C_plb)))) n k)))) := by
  have h := bG_st0H (hlp g163 cf_plb) off ds ss l A p n k
  simp only [lpH_lp] at h
  exact h
theorem bG_st1H (hl : Hl) (off : Int) (ds ss l A : List Int) (p o : Int) (out : List Int) (n : Nat) {R : Type} (k : AEx → LSt → Option R) : lpH g163 cf_plb [2, 4] hl (cL (cL (cR (cR C_plb)))) (n + 1) (stVb1 off ds ss l A p (o :: out)) k =
  bif decide (p ≥ Int.ofNat l.length) then k AEx.ret { fr := mkFr 6 [(0, AV.ref 8), (1, AV.op 0 [] 0), (3, AV.os 10 0), (4, I p), (12, AV.ref 8), (13, I p), (14, B false), (15, B true)], hp := [(9, AObj.arr 2 (i64T) 0 false (o :: out)), (1, AObj.box (AV.os 9 0)), (2, AObj.box (I 1)), (3, AObj.box AV.nils), (4, AObj.box (AV.d (i64T).slice l)), (5, AObj.box ((I off).pr ((AV.os 7 0).pr ((AV.os 6 0).pr (AV.d Ty.unit PUnit.unit))))), (6, AObj.arr 3 (i64T) 0 false ss), (7, AObj.arr 3 (i64T) 0 false ds), (8, AObj.rc (ARec.loop LC_reb [(0, (I off).pr ((AV.os 7 0).pr ((AV.os 6 0).pr (AV.d Ty.unit PUnit.unit)))), (1, AV.d (i64T).slice l), (2, AV.op 5 [] 0), (3, AV.op 4 [] 0), (4, AV.op 3 [] 0), (5, AV.op 2 [] 0), (6, AV.op 1 [] 0)] (LSta.done Jmp.ret))), (0, AObj.box ((I off).pr ((AV.os 7 0).pr ((AV.os 6 0).pr (AV.d Ty.unit PUnit.unit))))), (7, AObj.arr 3 (i64T) 0 false ds), (6, AObj.arr 3 (i64T) 0 false ss), (1, AObj.box (AV.os 9 0)), (9, AObj.arr 2 (i64T) 0 false (o :: out)), (2, AObj.box (I 0)), (3, AObj.box AV.nils), (4, AObj.box (AV.d (i64T).slice l)), (5, AObj.box ((I off).pr ((AV.os 7 0).pr ((AV.os 6 0).pr (AV.d Ty.unit PUnit.unit))))), (8, AObj.rc (ARec.loop LC_reb [(0, (I off).pr ((AV.os 7 0).pr ((AV.os 6 0).pr (AV.d Ty.unit PUnit.unit)))), (1, AV.d (i64T).slice l), (2, AV.op 5 [] 0), (3, AV.op 4 [] 0), (4, AV.op 3 [] 0), (5, AV.op 2 [] 0), (6, AV.op 1 [] 0)] LSta.ready)), (10, AObj.arr 3 (i64T) 0 false A)], nx := 29 }
  else (idx l p).bind fun v1 =>
      (app (o :: out) [v1]).bind fun v2 =>
        hl (cL (cL (cL (cR (cR (cL (cL (cL (cR (cR C_plb)))))))))) _ { fr := mkFr 6 [(0, AV.ref 8), (1, AV.op 0 [] 0), (3, AV.os 10 0), (4, I p), (5, I (IntKind.i64.wrap (Int.ofNat A.length - 1)))], hp := [(0, AObj.box ((I off).pr ((AV.os 7 0).pr ((AV.os 6 0).pr (AV.d Ty.unit PUnit.unit))))), (7, AObj.arr 3 (i64T) 0 false ds), (6, AObj.arr 3 (i64T) 0 false ss), (1, AObj.box (AV.os 9 0)), (9, AObj.arr 2 (i64T) 0 false v2), (2, AObj.box (I 0)), (3, AObj.box AV.nils), (4, AObj.box (AV.d (i64T).slice l)), (5, AObj.box ((I off).pr ((AV.os 7 0).pr ((AV.os 6 0).pr (AV.d Ty.unit PUnit.unit))))), (8, AObj.rc (ARec.loop LC_reb [(0, (I off).pr ((AV.os 7 0).pr ((AV.os 6 0).pr (AV.d Ty.unit PUnit.unit)))), (1, AV.d (i64T).slice l), (2, AV.op 5 [] 0), (3, AV.op 4 [] 0), (4, AV.op 3 [] 0), (5, AV.op 2 [] 0), (6, AV.op 1 [] 0)] LSta.ready)), (10, AObj.arr 3 (i64T) 0 false A)], nx := 20 } (blkK 2 (seqH g163 cf_plb [2, 4] hl (cR (cR (cR (cL (cL (cL (cR (cR C_plb)))))))) (blkK 1 (nxtH g163 cf_plb [2, 4] hl (cL (cL (cR (cR C_plb)))) n k)))) := by kernel_rfl
theorem bG_st1 (off : Int) (ds ss l A : List Int) (p o : Int) (out : List Int) (n : Nat) {R : Type} (k : AEx → LSt → Option R) : lp g163 cf_plb (cL (cL (cR (cR C_plb)))) (n + 1) (stVb1 off ds ss l A p (o :: out)) k =
  bif decide (p ≥ Int.ofNat l.length) then k AEx.ret { fr := mkFr 6 [(0, AV.ref 8), (1, AV.op 0 [] 0), (3, AV.os 10 0), (4, I p), (12, AV.ref 8), (13, I p), (14, B false), (15, B true)], hp := [(9, AObj.arr 2 (i64T) 0 false (o :: out)), (1, AObj.box (AV.os 9 0)), (2, AObj.box (I 1)), (3, AObj.box AV.nils), (4, AObj.box (AV.d (i64T).slice l)), (5, AObj.box ((I off).pr ((AV.os 7 0).pr ((AV.os 6 0).pr (AV.d Ty.unit PUnit.unit))))), (6, AObj.arr 3 (i64T) 0 false ss), (7, AObj.arr 3 (i64T) 0 false ds), (8, AObj.rc (ARec.loop LC_reb [(0, (I off).pr ((AV.os 7 0).pr ((AV.os 6 0).pr (AV.d Ty.unit PUnit.unit)))), (1, AV.d (i64T).slice l), (2, AV.op 5 [] 0), (3, AV.op 4 [] 0), (4, AV.op 3 [] 0), (5, AV.op 2 [] 0), (6, AV.op 1 [] 0)] (LSta.done Jmp.ret))), (0, AObj.box ((I off).pr ((AV.os 7 0).pr ((AV.os 6 0).pr (AV.d Ty.unit PUnit.unit))))), (7, AObj.arr 3 (i64T) 0 false ds), (6, AObj.arr 3 (i64T) 0 false ss), (1, AObj.box (AV.os 9 0)), (9, AObj.arr 2 (i64T) 0 false (o :: out)), (2, AObj.box (I 0)), (3, AObj.box AV.nils), (4, AObj.box (AV.d (i64T).slice l)), (5, AObj.box ((I off).pr ((AV.os 7 0).pr ((AV.os 6 0).pr (AV.d Ty.unit PUnit.unit))))), (8, AObj.rc (ARec.loop LC_reb [(0, (I off).pr ((AV.os 7 0).pr ((AV.os 6 0).pr (AV.d Ty.unit PUnit.unit)))), (1, AV.d (i64T).slice l), (2, AV.op 5 [] 0), (3, AV.op 4 [] 0), (4, AV.op 3 [] 0), (5, AV.op 2 [] 0), (6, AV.op 1 [] 0)] LSta.ready)), (10, AObj.arr 3 (i64T) 0 false A)], nx := 29 }
  else (idx l p).bind fun v1 =>
      (app (o :: out) [v1]).bind fun v2 =>
        (hlp g163 cf_plb) (cL (cL (cL (cR (cR (cL (cL (cL (cR (cR C_plb)))))))))) _ { fr := mkFr 6 [(0, AV.ref 8), (1, AV.op 0 [] 0), (3, AV.os 10 0), (4, I p), (5, I (IntKind.i64.wrap (Int.ofNat A.length - 1)))], hp := [(0, AObj.box ((I off).pr ((AV.os 7 0).pr ((AV.os 6 0).pr (AV.d Ty.unit PUnit.unit))))), (7, AObj.arr 3 (i64T) 0 false ds), (6, AObj.arr 3 (i64T) 0 false ss), (1, AObj.box (AV.os 9 0)), (9, AObj.arr 2 (i64T) 0 false v2), (2, AObj.box (I 0)), (3, AObj.box AV.nils), (4, AObj.box (AV.d (i64T).slice l)), (5, AObj.box ((I off).pr ((AV.os 7 0).pr ((AV.os 6 0).pr (AV.d Ty.unit PUnit.unit))))), (8, AObj.rc (ARec.loop LC_reb [(0, (I off).pr ((AV.os 7 0).pr ((AV.os 6 0).pr (AV.d Ty.unit PUnit.unit)))), (1, AV.d (i64T).slice l), (2, AV.op 5 [] 0), (3, AV.op 4 [] 0), (4, AV.op 3 [] 0), (5, AV.op 2 [] 0), (6, AV.op 1 [] 0)] LSta.ready)), (10, AObj.arr 3 (i64T) 0 false A)], nx := 20 } (blkK 2 (seqH g163 cf_plb [2, 4] (hlp g163 cf_plb) (cR (cR (cR (cL (cL (cL (cR (cR C_plb)))))))) (blkK 1 (nxtH g163 cf_plb [2, 4] (hlp g163 cf_plb) (cL (cL (cR (cR C_plb)))) n k)))) := by
  have h := bG_st1H (hlp g163 cf_plb) off ds ss l A p o out n k
  simp only [lpH_lp] at h
  exact h
noncomputable def stVi (off : Int) (ds ss l A : List Int) (p : Int) (out : List Int) (i : Int) : LSt := ⟨mkFr 6 [(0, .ref 8), (1, .op 0 [] 0), (3, .os 10 0), (4, I p), (5, I i)], (stVb1 off ds ss l A p out).hp, 20⟩
theorem bI_stH (hl : Hl) (off : Int) (ds ss l A : List Int) (p : Int) (out : List Int) (i : Int) (n : Nat) {R : Type} (k : AEx → LSt → Option R) : lpH g163 cf_plb [2, 4] hl (cL (cL (cL (cR (cR (cL (cL (cL (cR (cR C_plb)))))))))) (n + 1) (stVi off ds ss l A p out i) k =
  bif decide (i ≥ 0) then (idx A i).bind fun v1 =>
      (A[i.toNat]?).bind fun v2 =>
        (idx A i).bind fun v3 =>
          (setN A i.toNat (IntKind.i64.wrap (v2 + 1))).bind fun v4 =>
            (idx ss i).bind fun v5 =>
              (ss[i.toNat]?).bind fun v6 =>
                (idx v4 i).bind fun v7 =>
                  (v4[i.toNat]?).bind fun v8 =>
                    (idx ds i).bind fun v9 =>
                      (ds[i.toNat]?).bind fun v10 =>
                        bif decide (v8 < v10) then k (AEx.exit 2) { fr := mkFr 6 [(0, AV.ref 8), (1, AV.op 0 [] 0), (3, AV.os 10 0), (4, I (IntKind.i64.wrap (p + v6))), (5, I i), (19, I i), (20, B true), (23, AV.os 10 0), (24, I i), (25, AV.oe 10 0 i.toNat), (26, I v2), (27, I (IntKind.i64.wrap (v2 + 1))), (28, AV.oe 10 0 i.toNat), (29, I p), (30, AV.op 0 [2] 2), (31, AV.os 6 0), (32, I i), (33, AV.oe 6 0 i.toNat), (34, I v6), (35, I (IntKind.i64.wrap (p + v6))), (36, AV.os 10 0), (37, I i), (38, AV.oe 10 0 i.toNat), (39, I v8), (40, AV.op 0 [1] 1), (41, AV.os 7 0), (42, I i), (43, AV.oe 7 0 i.toNat), (44, I v10), (45, B true)], hp := [(10, AObj.arr 3 (i64T) 0 false v4), (0, AObj.box ((I off).pr ((AV.os 7 0).pr ((AV.os 6 0).pr (AV.d Ty.unit PUnit.unit))))), (7, AObj.arr 3 (i64T) 0 false ds), (6, AObj.arr 3 (i64T) 0 false ss), (1, AObj.box (AV.os 9 0)), (9, AObj.arr 2 (i64T) 0 false out), (2, AObj.box (I 0)), (3, AObj.box AV.nils), (4, AObj.box (AV.d (i64T).slice l)), (5, AObj.box ((I off).pr ((AV.os 7 0).pr ((AV.os 6 0).pr (AV.d Ty.unit PUnit.unit))))), (8, AObj.rc (ARec.loop LC_reb [(0, (I off).pr ((AV.os 7 0).pr ((AV.os 6 0).pr (AV.d Ty.unit PUnit.unit)))), (1, AV.d (i64T).slice l), (2, AV.op 5 [] 0), (3, AV.op 4 [] 0), (4, AV.op 3 [] 0), (5, AV.op 2 [] 0), (6, AV.op 1 [] 0)] LSta.ready)), (10, AObj.arr 3 (i64T) 0 false A)], nx := 20 }
                        else (idx v4 i).bind fun v12 =>
                            (v4[i.toNat]?).bind fun v13 =>
                              (idx ss i).bind fun v14 =>
                                (ss[i.toNat]?).bind fun v15 =>
                                  (idx v4 i).bind fun v16 =>
                                    (setN v4 i.toNat 0).bind fun v17 =>
                                      lpH g163 cf_plb [2, 4] hl (cL (cL (cL (cR (cR (cL (cL (cL (cR (cR C_plb)))))))))) n { fr := mkFr 6 [(0, AV.ref 8), (1, AV.op 0 [] 0), (3, AV.os 10 0), (4, I (IntKind.i64.wrap (IntKind.i64.wrap (p + v6) - IntKind.i64.wrap (v13 * v15)))), (5, I (IntKind.i64.wrap (i - 1)))], hp := [(0, AObj.box ((I off).pr ((AV.os 7 0).pr ((AV.os 6 0).pr (AV.d Ty.unit PUnit.unit))))), (7, AObj.arr 3 (i64T) 0 false ds), (6, AObj.arr 3 (i64T) 0 false ss), (1, AObj.box (AV.os 9 0)), (9, AObj.arr 2 (i64T) 0 false out), (2, AObj.box (I 0)), (3, AObj.box AV.nils), (4, AObj.box (AV.d (i64T).slice l)), (5, AObj.box ((I off).pr ((AV.os 7 0).pr ((AV.os 6 0).pr (AV.d Ty.unit PUnit.unit))))), (8, AObj.rc (ARec.loop LC_reb [(0, (I off).pr ((AV.os 7 0).pr ((AV.os 6 0).pr (AV.d Ty.unit PUnit.unit)))), (1, AV.d (i64T).slice l), (2, AV.op 5 [] 0), (3, AV.op 4 [] 0), (4, AV.op 3 [] 0), (5, AV.op 2 [] 0), (6, AV.op 1 [] 0)] LSta.ready)), (10, AObj.arr 3 (i64T) 0 false v17)], nx := 20 } k
  else k (AEx.exit 2) { fr := mkFr 6 [(0, AV.ref 8), (1, AV.op 0 [] 0), (3, AV.os 10 0), (4, I p), (5, I i), (19, I i), (20, B false)], hp := [(0, AObj.box ((I off).pr ((AV.os 7 0).pr ((AV.os 6 0).pr (AV.d Ty.unit PUnit.unit))))), (7, AObj.arr 3 (i64T) 0 false ds), (6, AObj.arr 3 (i64T) 0 false ss), (1, AObj.box (AV.os 9 0)), (9, AObj.arr 2 (i64T) 0 false out), (2, AObj.box (I 0)), (3, AObj.box AV.nils), (4, AObj.box (AV.d (i64T).slice l)), (5, AObj.box ((I off).pr ((AV.os 7 0).pr ((AV.os 6 0).pr (AV.d Ty.unit PUnit.unit))))), (8, AObj.rc (ARec.loop LC_reb [(0, (I off).pr ((AV.os 7 0).pr ((AV.os 6 0).pr (AV.d Ty.unit PUnit.unit)))), (1, AV.d (i64T).slice l), (2, AV.op 5 [] 0), (3, AV.op 4 [] 0), (4, AV.op 3 [] 0), (5, AV.op 2 [] 0), (6, AV.op 1 [] 0)] LSta.ready)), (10, AObj.arr 3 (i64T) 0 false A)], nx := 20 } := by kernel_rfl
theorem bI_st (off : Int) (ds ss l A : List Int) (p : Int) (out : List Int) (i : Int) (n : Nat) {R : Type} (k : AEx → LSt → Option R) : lp g163 cf_plb (cL (cL (cL (cR (cR (cL (cL (cL (cR (cR C_plb)))))))))) (n + 1) (stVi off ds ss l A p out i) k =
  bif decide (i ≥ 0) then (idx A i).bind fun v1 =>
      (A[i.toNat]?).bind fun v2 =>
        (idx A i).bind fun v3 =>
          (setN A i.toNat (IntKind.i64.wrap (v2 + 1))).bind fun v4 =>
            (idx ss i).bind fun v5 =>
              (ss[i.toNat]?).bind fun v6 =>
                (idx v4 i).bind fun v7 =>
                  (v4[i.toNat]?).bind fun v8 =>
                    (idx ds i).bind fun v9 =>
                      (ds[i.toNat]?).bind fun v10 =>
                        bif decide (v8 < v10) then k (AEx.exit 2) { fr := mkFr 6 [(0, AV.ref 8), (1, AV.op 0 [] 0), (3, AV.os 10 0), (4, I (IntKind.i64.wrap (p + v6))), (5, I i), (19, I i), (20, B true), (23, AV.os 10 0), (24, I i), (25, AV.oe 10 0 i.toNat), (26, I v2), (27, I (IntKind.i64.wrap (v2 + 1))), (28, AV.oe 10 0 i.toNat), (29, I p), (30, AV.op 0 [2] 2), (31, AV.os 6 0), (32, I i), (33, AV.oe 6 0 i.toNat), (34, I v6), (35, I (IntKind.i64.wrap (p + v6))), (36, AV.os 10 0), (37, I i), (38, AV.oe 10 0 i.toNat), (39, I v8), (40, AV.op 0 [1] 1), (41, AV.os 7 0), (42, I i), (43, AV.oe 7 0 i.toNat), (44, I v10), (45, B true)], hp := [(10, AObj.arr 3 (i64T) 0 false v4), (0, AObj.box ((I off).pr ((AV.os 7 0).pr ((AV.os 6 0).pr (AV.d Ty.unit PUnit.unit))))), (7, AObj.arr 3 (i64T) 0 false ds), (6, AObj.arr 3 (i64T) 0 false ss), (1, AObj.box (AV.os 9 0)), (9, AObj.arr 2 (i64T) 0 false out), (2, AObj.box (I 0)), (3, AObj.box AV.nils), (4, AObj.box (AV.d (i64T).slice l)), (5, AObj.box ((I off).pr ((AV.os 7 0).pr ((AV.os 6 0).pr (AV.d Ty.unit PUnit.unit))))), (8, AObj.rc (ARec.loop LC_reb [(0, (I off).pr ((AV.os 7 0).pr ((AV.os 6 0).pr (AV.d Ty.unit PUnit.unit)))), (1, AV.d (i64T).slice l), (2, AV.op 5 [] 0), (3, AV.op 4 [] 0), (4, AV.op 3 [] 0), (5, AV.op 2 [] 0), (6, AV.op 1 [] 0)] LSta.ready)), (10, AObj.arr 3 (i64T) 0 false A)], nx := 20 }
                        else (idx v4 i).bind fun v12 =>
                            (v4[i.toNat]?).bind fun v13 =>
                              (idx ss i).bind fun v14 =>
                                (ss[i.toNat]?).bind fun v15 =>
                                  (idx v4 i).bind fun v16 =>
                                    (setN v4 i.toNat 0).bind fun v17 =>
                                      lp g163 cf_plb (cL (cL (cL (cR (cR (cL (cL (cL (cR (cR C_plb)))))))))) n { fr := mkFr 6 [(0, AV.ref 8), (1, AV.op 0 [] 0), (3, AV.os 10 0), (4, I (IntKind.i64.wrap (IntKind.i64.wrap (p + v6) - IntKind.i64.wrap (v13 * v15)))), (5, I (IntKind.i64.wrap (i - 1)))], hp := [(0, AObj.box ((I off).pr ((AV.os 7 0).pr ((AV.os 6 0).pr (AV.d Ty.unit PUnit.unit))))), (7, AObj.arr 3 (i64T) 0 false ds), (6, AObj.arr 3 (i64T) 0 false ss), (1, AObj.box (AV.os 9 0)), (9, AObj.arr 2 (i64T) 0 false out), (2, AObj.box (I 0)), (3, AObj.box AV.nils), (4, AObj.box (AV.d (i64T).slice l)), (5, AObj.box ((I off).pr ((AV.os 7 0).pr ((AV.os 6 0).pr (AV.d Ty.unit PUnit.unit))))), (8, AObj.rc (ARec.loop LC_reb [(0, (I off).pr ((AV.os 7 0).pr ((AV.os 6 0).pr (AV.d Ty.unit PUnit.unit)))), (1, AV.d (i64T).slice l), (2, AV.op 5 [] 0), (3, AV.op 4 [] 0), (4, AV.op 3 [] 0), (5, AV.op 2 [] 0), (6, AV.op 1 [] 0)] LSta.ready)), (10, AObj.arr 3 (i64T) 0 false v17)], nx := 20 } k
  else k (AEx.exit 2) { fr := mkFr 6 [(0, AV.ref 8), (1, AV.op 0 [] 0), (3, AV.os 10 0), (4, I p), (5, I i), (19, I i), (20, B false)], hp := [(0, AObj.box ((I off).pr ((AV.os 7 0).pr ((AV.os 6 0).pr (AV.d Ty.unit PUnit.unit))))), (7, AObj.arr 3 (i64T) 0 false ds), (6, AObj.arr 3 (i64T) 0 false ss), (1, AObj.box (AV.os 9 0)), (9, AObj.arr 2 (i64T) 0 false out), (2, AObj.box (I 0)), (3, AObj.box AV.nils), (4, AObj.box (AV.d (i64T).slice l)), (5, AObj.box ((I off).pr ((AV.os 7 0).pr ((AV.os 6 0).pr (AV.d Ty.unit PUnit.unit))))), (8, AObj.rc (ARec.loop LC_reb [(0, (I off).pr ((AV.os 7 0).pr ((AV.os 6 0).pr (AV.d Ty.unit PUnit.unit)))), (1, AV.d (i64T).slice l), (2, AV.op 5 [] 0), (3, AV.op 4 [] 0), (4, AV.op 3 [] 0), (5, AV.op 2 [] 0), (6, AV.op 1 [] 0)] LSta.ready)), (10, AObj.arr 3 (i64T) 0 false A)], nx := 20 } := by
  have h := bI_stH (hlp g163 cf_plb) off ds ss l A p out i n k
  simp only [lpH_lp] at h
  exact h
noncomputable def KIv {R : Type} (n : Nat) (k : AEx → LSt → Option R) : AEx → LSt → Option R := (blkK 2 (seqH g163 cf_plb [2, 4] (hlp g163 cf_plb) (cR (cR (cR (cL (cL (cL (cR (cR C_plb)))))))) (blkK 1 (nxtH g163 cf_plb [2, 4] (hlp g163 cf_plb) (cL (cL (cR (cR C_plb)))) n k))))
noncomputable def stBrk (off : Int) (ds ss l A A2 : List Int) (p p2 : Int) (out : List Int) (i a b s c d : Int) : LSt := ⟨mkFr 6 [(0, AV.ref 8), (1, AV.op 0 [] 0), (3, AV.os 10 0), (4, I p2), (5, I i), (19, I i), (20, B true), (23, AV.os 10 0), (24, I i), (25, AV.oe 10 0 i.toNat), (26, I a), (27, I b), (28, AV.oe 10 0 i.toNat), (29, I p), (30, AV.op 0 [2] 2), (31, AV.os 6 0), (32, I i), (33, AV.oe 6 0 i.toNat), (34, I s), (35, I p2), (36, AV.os 10 0), (37, I i), (38, AV.oe 10 0 i.toNat), (39, I c), (40, AV.op 0 [1] 1), (41, AV.os 7 0), (42, I i), (43, AV.oe 7 0 i.toNat), (44, I d), (45, B true)], (10, AObj.arr 3 i64T 0 false A2) :: (stVb1 off ds ss l A p out).hp, 20⟩
noncomputable def stFin (off : Int) (ds ss l A : List Int) (p : Int) (out : List Int) (i : Int) : LSt := ⟨mkFr 6 [(0, AV.ref 8), (1, AV.op 0 [] 0), (3, AV.os 10 0), (4, I p), (5, I i), (19, I i), (20, B false)], (stVb1 off ds ss l A p out).hp, 20⟩
theorem KI_brk (off : Int) (ds ss l A A2 : List Int) (p p2 : Int) (out : List Int) (j : Nat) (a b s c d : Int) (n : Nat) {R : Type} (k : AEx → LSt → Option R) : KIv n k (.exit 2) (stBrk off ds ss l A A2 p p2 out (Int.ofNat j) a b s c d) = lp g163 cf_plb (cL (cL (cR (cR C_plb)))) n (stVb1 off ds ss l A2 p2 out) k :=
  Eq.trans (b := lpH g163 cf_plb [2, 4] (hlp g163 cf_plb) (cL (cL (cR (cR C_plb)))) n (stVb1 off ds ss l A2 p2 out) k) (by kernel_rfl) lpH_lp
noncomputable def stRet (off : Int) (ds ss l A : List Int) (p : Int) (out : List Int) : LSt := ⟨mkFr 6 [(0, .ref 8), (1, .op 0 [] 0), (3, .os 10 0), (4, I p), (5, I (-1)), (19, I (-1)), (20, B false), (61, I (-1)), (62, B true)], (stVb1 off ds ss l A p out).hp, 20⟩
theorem KI_fin (off : Int) (ds ss l A : List Int) (p : Int) (out : List Int) (n : Nat) {R : Type} (k : AEx → LSt → Option R) : KIv n k (.exit 2) (stFin off ds ss l A p out (-1)) = k .ret (stRet off ds ss l A p out) := by kernel_rfl
theorem WKb_ret (off : Int) (ds ss l A : List Int) (p : Int) (out : List Int) : WKb .ret (stRet off ds ss l A p out) = some (.ret [], hpYbW off ds ss l out) := by kernel_rfl
end Go.Proofs.XGT
namespace Go.Proofs.XGT
open Go.Vm Go
set_option maxRecDepth 100000
set_option maxHeartbeats 1000000
def prodN : List Nat → Nat
  | [] => 1
  | d :: r => d * prodN r
def dig : List Nat → Nat → List Nat
  | [], _ => []
  | _ :: r, q => q / prodN r :: dig r (q % prodN r)
def dot : List Nat → List Nat → Nat
  | a :: r, s :: t => a * s + dot r t
  | _, _ => 0
def ints (l : List Nat) : List Int := l.map (fun n : Nat => (n : Int))
theorem ints_cons (a : Nat) (l : List Nat) : ints (a :: l) = (a : Int) :: ints l := rfl
theorem ints_len (l : List Nat) : (ints l).length = l.length := by simp [ints]
theorem dig_len : ∀ (ds : List Nat) (q : Nat), (dig ds q).length = ds.length
  | [], _ => rfl
  | _ :: r, q => by simp only [dig, List.length_cons, dig_len r]
theorem dot_zero : ∀ (ds t : List Nat), dot (dig ds 0) t = 0
  | [], t => by cases t <;> rfl
  | _ :: r, [] => rfl
  | _ :: r, s :: t => by
    show 0 / prodN r * s + dot (dig r (0 % prodN r)) t = 0
    rw [Nat.zero_div, Nat.zero_mod, Nat.zero_mul, dot_zero r t]
theorem mid_get {xs zs : List Int} {y : Int} : (xs ++ y :: zs)[xs.length]? = some y := by
  rw [List.getElem?_append_right (Nat.le_refl _), Nat.sub_self]
  rfl
theorem mid_idx {xs zs : List Int} {y : Int} : idx (xs ++ y :: zs) (Int.ofNat xs.length) = some y := by
  unfold idx
  rw [if_pos (show (0 : Int) ≤ Int.ofNat xs.length from Int.natCast_nonneg _), show (Int.ofNat xs.length).toNat = xs.length from rfl, mid_get]
theorem mid_set {xs zs : List Int} {y v : Int} : setN (xs ++ y :: zs) xs.length v = some (xs ++ v :: zs) := by
  unfold setN
  rw [show Nat.blt xs.length (xs ++ y :: zs).length = true from Nat.ble_eq_true_of_le (by rw [List.length_append, List.length_cons]; omega), cond_true, List.set_append_right _ _ (Nat.le_refl _), Nat.sub_self]
  rfl
section
variable {off : Int} {l out : List Int} {m : Nat} {R : Type} {k : AEx → LSt → Option R}
/-- one digit goes on: it stays below its bound, or falls to 0 -/
theorem od_one {Ap dp sp : List Int} {Ar dr sr : List Int} {c d s base n : Nat} (h1 : dp.length = Ap.length) (h2 : sp.length = Ap.length) (hc : c < d) (hd : d ≤ 65536) (hs : s ≤ 65536) (hb : base + 4295032832 ≤ 4611686018427387904) (hA : Ap.length ≤ 65536) :
    lp g163 cf_plb (cL (cL (cL (cR (cR (cL (cL (cL (cR (cR C_plb)))))))))) (n + 1) (stVi off (dp ++ (d : Int) :: dr) (sp ++ (s : Int) :: sr) l (Ap ++ (c : Int) :: Ar) ((base + c * s : Nat) : Int) out (Int.ofNat Ap.length)) (KIv m k) =
      if c + 1 < d then lp g163 cf_plb (cL (cL (cR (cR C_plb)))) m (stVb1 off (dp ++ (d : Int) :: dr) (sp ++ (s : Int) :: sr) l (Ap ++ ((c + 1 : Nat) : Int) :: Ar) ((base + (c + 1) * s : Nat) : Int) out) k
      else lp g163 cf_plb (cL (cL (cL (cR (cR (cL (cL (cL (cR (cR C_plb)))))))))) n (stVi off (dp ++ (d : Int) :: dr) (sp ++ (s : Int) :: sr) l (Ap ++ (0 : Int) :: Ar) (base : Int) out ((Ap.length : Int) - 1)) (KIv m k) := by
  have c1 : c * s ≤ 65536 * 65536 := Nat.mul_le_mul (by omega) hs
  have c2 : (c + 1) * s = c * s + s := by rw [Nat.add_mul, Nat.one_mul]
  have w1 : IntKind.i64.wrap ((c : Int) + 1) = ((c + 1 : Nat) : Int) := by rw [wrap64 (by omega) (by omega)]; omega
  have w2 : IntKind.i64.wrap (((base + c * s : Nat) : Int) + s) = ((base + (c + 1) * s : Nat) : Int) := by rw [c2, wrap64 (by omega) (by omega)]; omega
  have gA : idx (Ap ++ (c : Int) :: Ar) (Int.ofNat Ap.length) = some (c : Int) := mid_idx
  have gA' : (Ap ++ (c : Int) :: Ar)[(Int.ofNat Ap.length).toNat]? = some (c : Int) := mid_get
  have gS : setN (Ap ++ (c : Int) :: Ar) (Int.ofNat Ap.length).toNat ((c + 1 : Nat) : Int) = some (Ap ++ ((c + 1 : Nat) : Int) :: Ar) := mid_set
  have gs : idx (sp ++ (s : Int) :: sr) (Int.ofNat Ap.length) = some (s : Int) := by rw [← h2]; exact mid_idx
  have gs' : (sp ++ (s : Int) :: sr)[(Int.ofNat Ap.length).toNat]? = some (s : Int) := by rw [← h2]; exact mid_get
  have gB : idx (Ap ++ ((c + 1 : Nat) : Int) :: Ar) (Int.ofNat Ap.length) = some ((c + 1 : Nat) : Int) := mid_idx
  have gB' : (Ap ++ ((c + 1 : Nat) : Int) :: Ar)[(Int.ofNat Ap.length).toNat]? = some ((c + 1 : Nat) : Int) := mid_get
  have gd : idx (dp ++ (d : Int) :: dr) (Int.ofNat Ap.length) = some (d : Int) := by rw [← h1]; exact mid_idx
  have gd' : (dp ++ (d : Int) :: dr)[(Int.ofNat Ap.length).toNat]? = some (d : Int) := by rw [← h1]; exact mid_get
  have gZ : setN (Ap ++ ((c + 1 : Nat) : Int) :: Ar) (Int.ofNat Ap.length).toNat (0 : Int) = some (Ap ++ (0 : Int) :: Ar) := mid_set
  rw [bI_st, decide_eq_true (show Int.ofNat Ap.length ≥ 0 from Int.natCast_nonneg _), cond_true, gA, Option.bind_some, gA', Option.bind_some, Option.bind_some, w1, gS, Option.bind_some, gs, Option.bind_some, gs', Option.bind_some, gB, Option.bind_some, gB', Option.bind_some, gd, Option.bind_some, gd', Option.bind_some, w2]
  by_cases h : c + 1 < d
  · rw [if_pos h, decide_eq_true (show ((c + 1 : Nat) : Int) < (d : Int) by omega), cond_true]
    exact KI_brk off _ _ l (Ap ++ (c : Int) :: Ar) _ _ _ out Ap.length _ _ _ _ _ m k
  · have w3 : IntKind.i64.wrap (((c + 1 : Nat) : Int) * s) = (((c + 1) * s : Nat) : Int) := by rw [← Int.natCast_mul]; exact wrap64 (by omega) (by omega)
    have w4 : IntKind.i64.wrap (((base + (c + 1) * s : Nat) : Int) - (((c + 1) * s : Nat) : Int)) = (base : Int) := by rw [wrap64 (by omega) (by omega)]; omega
    have w5 : IntKind.i64.wrap (Int.ofNat Ap.length - 1) = (Ap.length : Int) - 1 := wrap64 (by simp only [Int.ofNat_eq_natCast]; omega) (by simp only [Int.ofNat_eq_natCast]; omega)
    rw [if_neg h, decide_eq_false (show ¬ (((c + 1 : Nat) : Int) < (d : Int)) by omega), cond_false]
    simp only [Option.bind_some, gZ, w3, w4, w5]
    rfl
theorem prodN_pos {ds : List Nat} (h : ∀ d ∈ ds, 1 ≤ d) : 1 ≤ prodN ds := by
  induction ds with
  | nil => exact Nat.le_refl _
  | cons d r ih =>
    have h1 := h d (by simp)
    have h2 := ih fun x hx => h x (by simp [hx])
    exact Nat.mul_pos h1 h2
theorem od_in : ∀ (suf ssuf : List Nat) (Ap dp sp : List Int) (q base n : Nat), dp.length = Ap.length → sp.length = Ap.length → ssuf.length = suf.length → (∀ d ∈ suf, d ≤ 65536) → (∀ s ∈ ssuf, s ≤ 65536) → q < prodN suf → base + suf.length * 4295032832 ≤ 4611686018427387904 → Ap.length + suf.length ≤ 65536 → suf.length < n →
    lp g163 cf_plb (cL (cL (cL (cR (cR (cL (cL (cL (cR (cR C_plb)))))))))) n (stVi off (dp ++ ints suf) (sp ++ ints ssuf) l (Ap ++ ints (dig suf q)) ((base + dot (dig suf q) ssuf : Nat) : Int) out (((Ap.length + suf.length : Nat) : Int) - 1)) (KIv m k) =
      if q + 1 < prodN suf then lp g163 cf_plb (cL (cL (cR (cR C_plb)))) m (stVb1 off (dp ++ ints suf) (sp ++ ints ssuf) l (Ap ++ ints (dig suf (q + 1))) ((base + dot (dig suf (q + 1)) ssuf : Nat) : Int) out) k
      else lp g163 cf_plb (cL (cL (cL (cR (cR (cL (cL (cL (cR (cR C_plb)))))))))) (n - suf.length) (stVi off (dp ++ ints suf) (sp ++ ints ssuf) l (Ap ++ ints (dig suf 0)) (base : Int) out ((Ap.length : Int) - 1)) (KIv m k) := by
  intro suf
  induction suf with
  | nil =>
    intro ssuf Ap dp sp q base n _ _ _ _ _ hq _ _ _
    have hq : q < 1 := hq
    have : q = 0 := by omega
    subst this
    rw [if_neg (show ¬ (0 + 1 < prodN []) from by show ¬ (0 + 1 < 1); omega)]
    rfl
  | cons d r ih =>
    intro ssuf Ap dp sp q base n h1 h2 h3 h4 h5 hq hb hA hn
    match ssuf, h3, h5 with
    | s :: t, h3, h5 =>
      have hd := h4 d (by simp)
      have hs := h5 s (by simp)
      have hq : q < d * prodN r := hq
      have hN : 0 < prodN r := by
        rcases Nat.eq_zero_or_pos (prodN r) with h0 | h0
        · rw [h0, Nat.mul_zero] at hq; omega
        · exact h0
      have hc : q / prodN r < d := Nat.div_lt_of_lt_mul (by rw [Nat.mul_comm]; exact hq)
      have hq' : q % prodN r < prodN r := Nat.mod_lt _ hN
      have hqe : q = q / prodN r * prodN r + q % prodN r := by rw [Nat.mul_comm]; exact (Nat.div_add_mod _ _).symm
      generalize hcd : q / prodN r = c at *
      generalize hqd : q % prodN r = q' at *
      have hcs : c * s ≤ 65536 * 65536 := Nat.mul_le_mul (by omega) hs
      simp only [List.length_cons] at hb hA hn h3
      have key := ih t (Ap ++ [(c : Int)]) (dp ++ [(d : Int)]) (sp ++ [(s : Int)]) q' (base + c * s) n (by simp [h1]) (by simp [h2]) (by omega) (fun x hx => h4 x (by simp [hx])) (fun x hx => h5 x (by simp [hx])) hq' (by omega) (by simp; omega) (by omega)
      simp only [List.append_assoc, List.singleton_append, List.length_append, List.length_cons, List.length_nil] at key
      have eI : (((Ap.length + (d :: r).length : Nat) : Int) - 1) = (((Ap.length + (0 + 1) + r.length : Nat) : Int) - 1) := by simp only [List.length_cons]; omega
      have eP : ∀ z, base + dot (c :: dig r z) (s :: t) = base + c * s + dot (dig r z) t := fun z => by show base + (c * s + _) = _; omega
      have eD : dig (d :: r) q = c :: dig r q' := by show q / prodN r :: dig r (q % prodN r) = _; rw [hcd, hqd]
      rw [eI, eD, eP, ints_cons, ints_cons, ints_cons]
      refine key.trans ?_
      show _ = if q + 1 < d * prodN r then _ else _
      by_cases hlt : q' + 1 < prodN r
      · have hrow : (c + 1) * prodN r ≤ d * prodN r := Nat.mul_le_mul_right _ hc
        rw [Nat.add_mul, Nat.one_mul] at hrow
        have hp := (place_iff (i := c) (p := q + 1) (j := q' + 1) hlt).mp (by omega)
        have eD2 : dig (d :: r) (q + 1) = c :: dig r (q' + 1) := by show (q + 1) / prodN r :: dig r ((q + 1) % prodN r) = _; rw [hp.1, hp.2]
        rw [if_pos hlt, if_pos (by omega), eD2, eP, ints_cons]
      · have hrow : (c + 1) * prodN r = c * prodN r + prodN r := by rw [Nat.add_mul, Nat.one_mul]
        rw [if_neg hlt]
        obtain ⟨n', hn'⟩ : ∃ n', n - r.length = n' + 1 := ⟨n - r.length - 1, by omega⟩
        have e1 : (((Ap.length + (0 + 1) : Nat) : Int) - 1) = Int.ofNat Ap.length := by simp only [Int.ofNat_eq_natCast]; omega
        rw [hn', e1, od_one h1 h2 hc hd hs (by omega) (by omega)]
        by_cases hlt2 : c + 1 < d
        · have hrow2 : (c + 1 + 1) * prodN r ≤ d * prodN r := Nat.mul_le_mul_right _ hlt2
          rw [Nat.add_mul _ 1, Nat.one_mul] at hrow2
          have hp := (place_iff (i := c + 1) (p := q + 1) (j := 0) hN).mp (by omega)
          have eD2 : dig (d :: r) (q + 1) = (c + 1) :: dig r 0 := by show (q + 1) / prodN r :: dig r ((q + 1) % prodN r) = _; rw [hp.1, hp.2]
          have e0 : dot (dig r 0) t = 0 := dot_zero r t
          rw [if_pos hlt2, if_pos (by omega), eD2, ints_cons]
          show _ = lp g163 cf_plb (cL (cL (cR (cR C_plb)))) m (stVb1 off _ _ l _ ((base + ((c + 1) * s + dot (dig r 0) t) : Nat) : Int) out) k
          rw [e0]
          rfl
        · have hce : c + 1 = d := by omega
          have eD0 : dig (d :: r) 0 = 0 :: dig r 0 := by show 0 / prodN r :: dig r (0 % prodN r) = _; rw [Nat.zero_div, Nat.zero_mod]
          rw [if_neg hlt2, if_neg (by rw [← hce, hrow]; omega), eD0, ints_cons]
          have en : n - (d :: r).length = n' := by simp only [List.length_cons]; omega
          rw [en]
          rfl
end
/-- the numbers that a view shows -/
def vwL (off : Nat) (ds ss : List Nat) (l : List Int) : List Int := tab (prodN ds) (fun q => l.getD (off + dot (dig ds q) ss) 0)
noncomputable def stVm2 (off : Int) (ds ss l A : List Int) (p : Int) (out : List Int) : LSt := match out with
  | [] => stVb0 off ds ss l A p
  | o :: r => stVb1 off ds ss l A p (o :: r)
section
variable {off : Nat} {l : List Int} {ds ss : List Nat}
theorem od_end (out : List Int) (A : List Int) (p : Int) (n m : Nat) : lp g163 cf_plb (cL (cL (cL (cR (cR (cL (cL (cL (cR (cR C_plb)))))))))) (n + 1) (stVi off (ints ds) (ints ss) l A p out (-1)) (KIv m WKb) = some (.ret [], hpYbW off (ints ds) (ints ss) l out) := by
  rw [bI_st, decide_eq_false (show ¬ ((-1 : Int) ≥ 0) by decide), cond_false]
  exact (KI_fin off (ints ds) (ints ss) l A p out m WKb).trans (WKb_ret off (ints ds) (ints ss) l A p out)
theorem od_step (h3 : ss.length = ds.length) (h1 : ∀ d ∈ ds, d ≤ 65536) (h5 : ∀ s ∈ ss, s ≤ 65536) (hr : ds.length ≤ 6) (ho : off ≤ 65536) (hN : prodN ds ≤ 65536) {q : Nat} (hq : q < prodN ds) (hp : off + dot (dig ds q) ss < l.length) (n : Nat) :
    lp g163 cf_plb (cL (cL (cR (cR C_plb)))) (n + 1) (stVm2 off (ints ds) (ints ss) l (ints (dig ds q)) ((off + dot (dig ds q) ss : Nat) : Int) (tab q (fun q => l.getD (off + dot (dig ds q) ss) 0))) WKb =
      if q + 1 < prodN ds then lp g163 cf_plb (cL (cL (cR (cR C_plb)))) n (stVm2 off (ints ds) (ints ss) l (ints (dig ds (q + 1))) ((off + dot (dig ds (q + 1)) ss : Nat) : Int) (tab (q + 1) (fun q => l.getD (off + dot (dig ds q) ss) 0))) WKb
      else some (.ret [], hpYbW off (ints ds) (ints ss) l (tab (q + 1) (fun q => l.getD (off + dot (dig ds q) ss) 0))) := by
  have hf : fu = 18446744073709551616 := rfl
  obtain ⟨g1, _⟩ := getV hp
  have hge : decide (((off + dot (dig ds q) ss : Nat) : Int) ≥ Int.ofNat l.length) = false := decide_eq_false (by simp only [Int.ofNat_eq_natCast]; omega)
  have hw : IntKind.i64.wrap (Int.ofNat (ints (dig ds q)).length - 1) = ((0 + ds.length : Nat) : Int) - 1 := by
    rw [ints_len, dig_len, wrap64 (by simp only [Int.ofNat_eq_natCast]; omega) (by simp only [Int.ofNat_eq_natCast]; omega), Nat.zero_add]
    rfl
  have hlen : (tab q (fun q => l.getD (off + dot (dig ds q) ss) 0)).length = q := tab_length _ _
  have key : ∀ out : List Int, out ≠ [] → lp g163 cf_plb (cL (cL (cL (cR (cR (cL (cL (cL (cR (cR C_plb)))))))))) fu (stVi off (ints ds) (ints ss) l (ints (dig ds q)) ((off + dot (dig ds q) ss : Nat) : Int) out (((0 + ds.length : Nat) : Int) - 1)) (KIv n WKb) =
      if q + 1 < prodN ds then lp g163 cf_plb (cL (cL (cR (cR C_plb)))) n (stVm2 off (ints ds) (ints ss) l (ints (dig ds (q + 1))) ((off + dot (dig ds (q + 1)) ss : Nat) : Int) out) WKb
      else some (.ret [], hpYbW off (ints ds) (ints ss) l out) := by
    intro out hne
    refine (od_in (off := off) (l := l) (out := out) (m := n) (k := WKb) ds ss [] [] [] q off fu rfl rfl h3 h1 h5 hq (by omega) (by simp only [List.length_nil]; omega) (by omega)).trans ?_
    by_cases h : q + 1 < prodN ds
    · rw [if_pos h, if_pos h]
      cases out with
      | nil => exact absurd rfl hne
      | cons o r => rfl
    · rw [if_neg h, if_neg h]
      obtain ⟨n', hn'⟩ : ∃ n', fu - ds.length = n' + 1 := ⟨fu - ds.length - 1, by omega⟩
      rw [hn']
      exact od_end out _ _ n' n
  rw [tab_succ]
  cases htab : tab q (fun q => l.getD (off + dot (dig ds q) ss) 0) with
  | nil =>
    refine Eq.trans ?_ (key ([] ++ [l.getD (off + dot (dig ds q) ss) 0]) (by simp))
    show lp g163 cf_plb (cL (cL (cR (cR C_plb)))) (n + 1) (stVb0 off (ints ds) (ints ss) l (ints (dig ds q)) ((off + dot (dig ds q) ss : Nat) : Int)) WKb = _
    rw [bG_st0, hge, cond_false, g1, Option.bind_some, hw]
    kernel_rfl
  | cons o r =>
    have hl2 : (o :: r).length ≤ 65536 := by rw [← htab, hlen]; omega
    refine Eq.trans ?_ (key ((o :: r) ++ [l.getD (off + dot (dig ds q) ss) 0]) (by simp))
    show lp g163 cf_plb (cL (cL (cR (cR C_plb)))) (n + 1) (stVb1 off (ints ds) (ints ss) l (ints (dig ds q)) ((off + dot (dig ds q) ss : Nat) : Int) (o :: r)) WKb = _
    rw [bG_st1, hge, cond_false, g1, Option.bind_some, app_one hl2, Option.bind_some, hw]
    kernel_rfl
theorem od_out (h3 : ss.length = ds.length) (h1 : ∀ d ∈ ds, d ≤ 65536) (h5 : ∀ s ∈ ss, s ≤ 65536) (hr : ds.length ≤ 6) (ho : off ≤ 65536) (hN : prodN ds ≤ 65536) (hp : ∀ q, q < prodN ds → off + dot (dig ds q) ss < l.length) : ∀ (r q n : Nat), q + r + 1 = prodN ds → r < n →
    lp g163 cf_plb (cL (cL (cR (cR C_plb)))) n (stVm2 off (ints ds) (ints ss) l (ints (dig ds q)) ((off + dot (dig ds q) ss : Nat) : Int) (tab q (fun q => l.getD (off + dot (dig ds q) ss) 0))) WKb = some (.ret [], hpYbW off (ints ds) (ints ss) l (vwL off ds ss l)) := by
  intro r
  induction r with
  | zero =>
    intro q n hq hn
    obtain ⟨n, rfl⟩ : ∃ m', n = m' + 1 := ⟨n - 1, by omega⟩
    rw [od_step h3 h1 h5 hr ho hN (show q < prodN ds by omega) (hp q (by omega)) n, if_neg (by omega)]
    unfold vwL
    rw [show q + 1 = prodN ds by omega]
  | succ r ih =>
    intro q n hq hn
    obtain ⟨n, rfl⟩ : ∃ m', n = m' + 1 := ⟨n - 1, by omega⟩
    rw [od_step h3 h1 h5 hr ho hN (show q < prodN ds by omega) (hp q (by omega)) n, if_pos (by omega)]
    exact ih (q + 1) n (by omega) (by omega)
theorem ints_rep (n : Nat) : List.replicate n (0 : Int) = ints (List.replicate n 0) := by simp [ints]
theorem dig_zero : ∀ ds : List Nat, dig ds 0 = List.replicate ds.length 0
  | [] => rfl
  | _ :: r => by
    show 0 / prodN r :: dig r (0 % prodN r) = _
    rw [Nat.zero_div, Nat.zero_mod, dig_zero r]
    rfl
theorem plbG_run (h3 : ss.length = ds.length) (h0 : ∀ d ∈ ds, 1 ≤ d) (h1 : ∀ d ∈ ds, d ≤ 65536) (h5 : ∀ s ∈ ss, s ≤ 65536) (hr : ds.length ≤ 6) (ho : off ≤ 65536) (hN : prodN ds ≤ 65536) (hp : ∀ q, q < prodN ds → off + dot (dig ds q) ss < l.length) :
    runC g163 Tryz.f132 6 [(2, [0, 1, 3, 4]), (4, [0, 1, 3, 4, 5])] [.ref 8, .op 0 [] 0] (hpYb off (ints ds) (ints ss) l .nils) ah = some (.ret [], hpYbW off (ints ds) (ints ss) l (vwL off ds ss l)) := by
  have hf : fu = 18446744073709551616 := rfl
  have hpos := prodN_pos h0
  have key := od_out (off := off) (l := l) h3 h1 h5 hr ho hN hp (prodN ds - 1) 0 fu (by omega) (by omega)
  rw [dot_zero, Nat.add_zero, dig_zero, ← ints_rep] at key
  refine (plb_eqG off (ints ds) (ints ss) l).trans ?_
  rw [if_pos ⟨Int.natCast_nonneg _, by rw [ints_len]; simp only [Int.ofNat_eq_natCast]; omega⟩, Option.bind_some, show (Int.ofNat (ints ds).length).toNat = ds.length from by rw [ints_len]; rfl]
  refine Eq.trans ?_ key
  kernel_rfl
end
end Go.Proofs.XGT
namespace Go.Proofs.XGT
open Go.Vm Go
set_option maxRecDepth 100000
set_option maxHeartbeats 4000000
def farB (s : Int) : Bool := bif decide (s < 0) then true else decide (s > 65536)
theorem far_eq (s : Int) : runC g4 Tryz.f106 4 [] [I s] [] ah =
  bif decide (s < 0) then some (AEnd.ret [B true], [])
  else some (AEnd.ret [B (decide (s > 65536))], []) := by kernel_rfl
def farF : List AV → LHp → Option (AEnd × LHp)
  | [.d (.int .i64) s], [] => some (.ret [B (farB s)], [])
  | _, _ => none
theorem far_run (s : Int) : runC g4 Tryz.f106 4 [] [I s] [] ah = some (.ret [B (farB s)], []) := by
  rw [far_eq]
  unfold farB
  cases decide (s < 0) <;> rfl
theorem farE_ok : FnE.OK e0.P e0.gam 106 (fnE farF) := by
  refine fnC_ok g4_good hmix Tryz.func106 Tryz.call106 (depth := 4) (live := []) (by decide +kernel) rfl fun args hs p h => ?_
  unfold farF at h
  split at h
  · cases h
    exact far_run _
  · cases h
noncomputable def C_ixf : Code := codeOf Tryz.f128
noncomputable def cf_ixf : Cfg := ⟨19, 5, 1, [(2, [0, 1, 7, 8])], true⟩
noncomputable def gIx : Env := g7.add 106 (fnE farF)
theorem gIx_good : gIx.Good := g7_good.add farE_ok
def hpSs (xs : List Int) : LHp := [(0, .arr 3 i64T 0 false xs)]
theorem ixf_eqH (hl : Hl) (xs : List Int) : runH gIx Tryz.f128 5 [(2, [0, 1, 7, 8])] [2] hl [.os 0 0, .fn (.func 106) [] []] (hpSs xs) ah =
  hl (cL (cL (cR (cL (cR C_ixf))))) _ { fr := mkFr 5 [(0, AV.os 0 0), (1, AV.fn (Fn.func 106) [] []), (7, I (Int.ofNat xs.length)), (8, I 0)], hp := [(0, AObj.arr 3 (i64T) 0 false xs)], nx := 2 } (blkK 0 (seqH gIx cf_ixf [2] hl (cR (cR C_ixf)) (endC Tryz.prog 1 Tryz.f128.results.toList ah))) := by kernel_rfl
theorem ixf_eq (xs : List Int) : runC gIx Tryz.f128 5 [(2, [0, 1, 7, 8])] [.os 0 0, .fn (.func 106) [] []] (hpSs xs) ah =
  (hlp gIx cf_ixf) (cL (cL (cR (cL (cR C_ixf))))) _ { fr := mkFr 5 [(0, AV.os 0 0), (1, AV.fn (Fn.func 106) [] []), (7, I (Int.ofNat xs.length)), (8, I 0)], hp := [(0, AObj.arr 3 (i64T) 0 false xs)], nx := 2 } (blkK 0 (seqH gIx cf_ixf [2] (hlp gIx cf_ixf) (cR (cR C_ixf)) (endC Tryz.prog 1 Tryz.f128.results.toList ah))) := runH_runC.trans (ixf_eqH (hlp gIx cf_ixf) xs)
def stIx (xs : List Int) (i : Int) : LSt := ⟨mkFr 5 [(0, .os 0 0), (1, .fn (.func 106) [] []), (7, I (Int.ofNat xs.length)), (8, I i)], hpSs xs, 2⟩
theorem ixf_stepH (hl : Hl) (xs : List Int) (i : Int) (n : Nat) {R : Type} (k : AEx → LSt → Option R) : lpH gIx cf_ixf [2] hl (cL (cL (cR (cL (cR C_ixf))))) (n + 1) (stIx xs i) k =
  bif decide (i < Int.ofNat xs.length) then (idx xs i).bind fun v1 =>
      (xs[i.toNat]?).bind fun v2 =>
        bif farB v2 then k AEx.ret { fr := mkFr 5 [(0, AV.os 0 0), (1, AV.fn (Fn.func 106) [] []), (4, I i), (5, I i), (7, I (Int.ofNat xs.length)), (8, I i), (9, B true), (10, I i), (11, AV.fn (Fn.func 106) [] []), (12, AV.os 0 0), (13, I i), (14, AV.oe 0 0 i.toNat), (15, I v2), (16, B true), (17, I i)], hp := [(0, AObj.arr 3 (i64T) 0 false xs)], nx := 2 }
        else lpH gIx cf_ixf [2] hl (cL (cL (cR (cL (cR C_ixf))))) n { fr := mkFr 5 [(0, AV.os 0 0), (1, AV.fn (Fn.func 106) [] []), (7, I (Int.ofNat xs.length)), (8, I (IntKind.i64.wrap (i + 1)))], hp := [(0, AObj.arr 3 (i64T) 0 false xs)], nx := 2 } k
  else k (AEx.exit 0) { fr := mkFr 5 [(0, AV.os 0 0), (1, AV.fn (Fn.func 106) [] []), (7, I (Int.ofNat xs.length)), (8, I i), (9, B false)], hp := [(0, AObj.arr 3 (i64T) 0 false xs)], nx := 2 } := by kernel_rfl
theorem ixf_step (xs : List Int) (i : Int) (n : Nat) {R : Type} (k : AEx → LSt → Option R) : lp gIx cf_ixf (cL (cL (cR (cL (cR C_ixf))))) (n + 1) (stIx xs i) k =
  bif decide (i < Int.ofNat xs.length) then (idx xs i).bind fun v1 =>
      (xs[i.toNat]?).bind fun v2 =>
        bif farB v2 then k AEx.ret { fr := mkFr 5 [(0, AV.os 0 0), (1, AV.fn (Fn.func 106) [] []), (4, I i), (5, I i), (7, I (Int.ofNat xs.length)), (8, I i), (9, B true), (10, I i), (11, AV.fn (Fn.func 106) [] []), (12, AV.os 0 0), (13, I i), (14, AV.oe 0 0 i.toNat), (15, I v2), (16, B true), (17, I i)], hp := [(0, AObj.arr 3 (i64T) 0 false xs)], nx := 2 }
        else lp gIx cf_ixf (cL (cL (cR (cL (cR C_ixf))))) n { fr := mkFr 5 [(0, AV.os 0 0), (1, AV.fn (Fn.func 106) [] []), (7, I (Int.ofNat xs.length)), (8, I (IntKind.i64.wrap (i + 1)))], hp := [(0, AObj.arr 3 (i64T) 0 false xs)], nx := 2 } k
  else k (AEx.exit 0) { fr := mkFr 5 [(0, AV.os 0 0), (1, AV.fn (Fn.func 106) [] []), (7, I (Int.ofNat xs.length)), (8, I i), (9, B false)], hp := [(0, AObj.arr 3 (i64T) 0 false xs)], nx := 2 } := by
  have h := ixf_stepH (hlp gIx cf_ixf) xs i n k
  simp only [lpH_lp] at h
  exact h
noncomputable def IxK : AEx → LSt → Option (AEnd × LHp) := (blkK 0 (seqH gIx cf_ixf [2] (hlp gIx cf_ixf) (cR (cR C_ixf)) (endC Tryz.prog 1 Tryz.f128.results.toList ah)))
theorem ixK_exit (xs : List Int) (i : Int) : IxK (.exit 0) ⟨mkFr 5 [(0, AV.os 0 0), (1, AV.fn (Fn.func 106) [] []), (7, I (Int.ofNat xs.length)), (8, I i), (9, B false)], hpSs xs, 2⟩ = some (.ret [I (-1)], hpSs xs) := by kernel_rfl
theorem ixf_run (xs : List Int) (hl : xs.length ≤ maxLen) (h : ∀ x ∈ xs, farB x = false) : runC gIx Tryz.f128 5 [(2, [0, 1, 7, 8])] [.os 0 0, .fn (.func 106) [] []] (hpSs xs) ah = some (.ret [I (-1)], hpSs xs) := by
  refine Eq.trans (b := lp gIx cf_ixf (cL (cL (cR (cL (cR C_ixf))))) fu (stIx xs 0) IxK) ((ixf_eq xs).trans (by kernel_rfl)) ?_
  exact allP_lp (T := fun n s => lp gIx cf_ixf (cL (cL (cR (cL (cR C_ixf))))) n s IxK) (xs := xs) (st := stIx xs) (r := some (.ret [I (-1)], hpSs xs)) hl (fun i x hx hi hlt n => by
    rw [ixf_step, decide_eq_true (show (i : Int) < Int.ofNat xs.length from Int.ofNat_lt.2 hlt), hi, show xs[(i : Int).toNat]? = some x from hx]
    simp only [cond_true, Option.bind_some, h x (List.mem_of_getElem? hx), cond_false]
    rfl) (fun n => by
    rw [ixf_step, decide_eq_false (show ¬ (Int.ofNat xs.length < Int.ofNat xs.length) from Int.lt_irrefl _)]
    exact ixK_exit _ _)
def ixfT : List AV → LHp → Tq
  | [.os 0 0, .fn (.func 106) [] []], [(0, .arr 3 (.int .i64) 0 false xs)] => .br (decide (xs.length ≤ maxLen ∧ ∀ x ∈ xs, farB x = false)) (.leaf (.ret [I (-1)]) (hpSs xs)) .no
  | _, _ => .no
theorem ixfT_ok : FnE.OK e0.P e0.gam 128 (treeE ixfT) := by
  have h1 : FnE.OK e0.P e0.gam 128 (execFnC gIx Tryz.f128 5 [(2, [0, 1, 7, 8])]) := execFnC_ok gIx_good hmix Tryz.func128 Tryz.call128 (by decide +kernel) rfl
  refine ⟨fun _ _ _ => Tq.eq _ _, fun args hs ae hs' h => ?_⟩
  have h' : (ixfT args hs).run ah = some (ae, hs') := h
  clear h
  unfold ixfT at h'
  split at h'
  · obtain ⟨hb, h2⟩ := Tq.br_no h'
    obtain ⟨c1, c2⟩ := of_decide_eq_true hb
    cases h2
    exact h1.okC (ixf_run _ c1 c2)
  · cases h'
noncomputable def gCt : Env := g8.add 128 (treeE ixfT)
theorem gCt_good : gCt.Good := g8_good.add ixfT_ok
noncomputable def ctE : FnE := execFnC gCt Tryz.f97 4 []
theorem ctE_ok : FnE.OK e0.P e0.gam 97 ctE := execFnC_ok gCt_good hmix Tryz.func97 Tryz.call97 (by decide +kernel) rfl
noncomputable def gVf : Env := g180.add 97 ctE
theorem gVf_good : gVf.Good := g180_good.add ctE_ok
def hpDs (ds ss : List Int) : LHp := [(0, .arr 3 i64T 0 false ss), (1, .arr 3 i64T 0 false ds)]
theorem vfi_eq (off : Int) (ds ss : List Int) : runC gVf Tryz.f75 6 [] [vwB off 1 0] (hpDs ds ss) ah =
  bif decide (ds.length ≤ 9223372036854775807) then 
    bif countE ds == 0 then 
      bif Int.ofNat ss.length == Int.ofNat ds.length then 
        bif decide (off ≥ 0) then 
          bif decide (off < 65536) then 
            bif decide (ss.length ≤ 9223372036854775807 ∧ ∀ (x : (i64T).den), x ∈ ss → farB x = false) then some (AEnd.ret [B true], [(0, AObj.arr 3 (i64T) 0 false ss), (1, AObj.arr 3 (i64T) 0 false ds)])
            else none
          else some (AEnd.ret [B false], [(0, AObj.arr 3 (i64T) 0 false ss), (1, AObj.arr 3 (i64T) 0 false ds)])
        else some (AEnd.ret [B false], [(0, AObj.arr 3 (i64T) 0 false ss), (1, AObj.arr 3 (i64T) 0 false ds)])
      else some (AEnd.ret [B false], [(0, AObj.arr 3 (i64T) 0 false ss), (1, AObj.arr 3 (i64T) 0 false ds)])
    else some (AEnd.ret [B false], [(0, AObj.arr 3 (i64T) 0 false ss), (1, AObj.arr 3 (i64T) 0 false ds)])
  else none := by kernel_rfl
end Go.Proofs.XGT
namespace Go.Proofs.XGT
open Go.Vm Go
set_option maxRecDepth 100000
set_option maxHeartbeats 1000000
theorem runC_kw {E : Env} (hE : E.Good) {fn : Func} {depth : Nat} {live : List (Nat × List Nat)} {args : List AV} {hs hs' : LHp} {ae : AEnd} (h : runC E fn depth live args hs ah = some (ae, hs')) {R : Type} (k : AEnd → LHp → Option R) : runC E fn depth live args hs k = k ae hs' := by
  rw [runC_eq hE] at h ⊢
  cases hx : execB E fn depth live args hs with
  | none => rw [hx] at h; cases h
  | some p => rw [hx] at h; cases h; rfl
theorem plbE_eqv (args : List AV) (hs : LHp) {R : Type} (k : AEnd → LHp → Option R) : y132.run args hs k = runC g163 Tryz.f132 6 [(2, [0, 1, 3, 4]), (4, [0, 1, 3, 4, 5])] args hs k := rfl
def rd2 (off s u w v : Int) (l : List Int) : List Int := tab (w.toNat * v.toNat) (f2V l off.toNat v.toNat s.toNat u.toNat)
end Go.Proofs.XGT
namespace Go.Proofs.XGT
open Go.Vm Go
set_option maxRecDepth 100000
set_option maxHeartbeats 4000000
def okFine (off : Int) (ds ss : List Int) : Bool := decide (countE ds = 0 ∧ ss.length = ds.length ∧ 0 ≤ off ∧ off < 65536 ∧ ∀ x ∈ ss, farB x = false)
theorem vfi_run {off : Int} {ds ss : List Int} (h : okFine off ds ss = true) : runC gVf Tryz.f75 6 [] [vwB off 1 0] (hpDs ds ss) ah = some (.ret [B true], hpDs ds ss) := by
  obtain ⟨c1, c2, c3, c4, c5⟩ := of_decide_eq_true h
  obtain ⟨_, hr, _⟩ := count_ok c1
  rw [vfi_eq, decide_eq_true (show ds.length ≤ 9223372036854775807 by omega), c1, c2, decide_eq_true (show off ≥ 0 from c3), decide_eq_true c4, decide_eq_true (show ds.length ≤ 9223372036854775807 ∧ ∀ (x : (i64T).den), x ∈ ss → farB x = false from ⟨by omega, c5⟩)]
  simp only [beq_self_eq_true, cond_true]
  rfl
def vfiT : List AV → LHp → Tq
  | [.pr (.d (.int .i64) off) (.pr (.os 1 0) (.pr (.os 0 0) (.d .unit ())))], [(0, .arr 3 (.int .i64) 0 false ss), (1, .arr 3 (.int .i64) 0 false ds)] => .br (okFine off ds ss) (.leaf (.ret [B true]) (hpDs ds ss)) .no
  | _, _ => .no
theorem vfiT_ok : FnE.OK e0.P e0.gam 75 (treeE vfiT) := by
  have h1 : FnE.OK e0.P e0.gam 75 (execFnC gVf Tryz.f75 6 []) := execFnC_ok gVf_good hmix Tryz.func75 Tryz.call75 (by decide +kernel) rfl
  refine ⟨fun _ _ _ => Tq.eq _ _, fun args hs ae hs' h => ?_⟩
  have h' : (vfiT args hs).run ah = some (ae, hs') := h
  clear h
  unfold vfiT at h'
  split at h'
  · obtain ⟨hb, h2⟩ := Tq.br_no h'
    cases h2
    exact h1.okC (vfi_run hb)
  · cases h'
noncomputable def gVr (F : FnE) : Env := (g184.add 132 F).add 75 (treeE vfiT)
theorem gVr_good : (gVr y132).Good := (g184_good.add y132_ok).add vfiT_ok
theorem rbr_eqH (hl : Hl) (F : FnE) (off : Int) (ds ss l : List Int) : runQ (gVr F) Tryz.f79 5 [(5, [0, 1, 2, 3, 4, 5, 6, 14, 15, 16, 17, 18, 19, 20, 21, 22, 23, 24])] hl [vwB off 1 0, .d (.slice i64T) l] (hpDs ds ss) ah =
  bif okFine off ds ss then hl (cL (cR (cL (cR (cR (cR C_reb)))))) _ { fr := mkFr 5 [(0, (I off).pr ((AV.os 1 0).pr ((AV.os 0 0).pr (AV.d Ty.unit PUnit.unit)))), (1, AV.d (i64T).slice l), (2, AV.op 2 [] 0), (3, AV.op 3 [] 0), (4, AV.op 4 [] 0), (5, AV.op 5 [] 0), (6, AV.op 8 [] 0), (8, (I off).pr ((AV.os 1 0).pr ((AV.os 0 0).pr (AV.d Ty.unit PUnit.unit)))), (9, B true), (10, B false), (11, (I off).pr ((AV.os 1 0).pr ((AV.os 0 0).pr (AV.d Ty.unit PUnit.unit)))), (12, AV.fn (Fn.func 132) [] [AV.op 9 [] 0])], hp := [(0, AObj.arr 3 (i64T) 0 false ss), (1, AObj.arr 3 (i64T) 0 false ds), (9, AObj.box ((I off).pr ((AV.os 1 0).pr ((AV.os 0 0).pr (AV.d Ty.unit PUnit.unit))))), (8, AObj.box AV.nils), (0, AObj.arr 3 (i64T) 0 false ss), (1, AObj.arr 3 (i64T) 0 false ds), (5, AObj.box (I 0)), (4, AObj.box AV.nils), (3, AObj.box (AV.d (i64T).slice l)), (2, AObj.box ((I off).pr ((AV.os 1 0).pr ((AV.os 0 0).pr (AV.d Ty.unit PUnit.unit))))), (0, AObj.arr 3 (i64T) 0 false ss), (1, AObj.arr 3 (i64T) 0 false ds)], nx := 12 } (blkK 0 (seqQ (gVr F) cf_reb hl (cR (cR (cR (cR C_reb)))) (endC Tryz.prog 2 Tryz.f79.results.toList ah)))
  else none := by kernel_rfl
theorem rbr_eq (F : FnE) (off : Int) (ds ss l : List Int) : runC (gVr F) Tryz.f79 5 [(5, [0, 1, 2, 3, 4, 5, 6, 14, 15, 16, 17, 18, 19, 20, 21, 22, 23, 24])] [vwB off 1 0, .d (.slice i64T) l] (hpDs ds ss) ah =
  bif okFine off ds ss then (rfp (gVr F) cf_reb) (cL (cR (cL (cR (cR (cR C_reb)))))) _ { fr := mkFr 5 [(0, (I off).pr ((AV.os 1 0).pr ((AV.os 0 0).pr (AV.d Ty.unit PUnit.unit)))), (1, AV.d (i64T).slice l), (2, AV.op 2 [] 0), (3, AV.op 3 [] 0), (4, AV.op 4 [] 0), (5, AV.op 5 [] 0), (6, AV.op 8 [] 0), (8, (I off).pr ((AV.os 1 0).pr ((AV.os 0 0).pr (AV.d Ty.unit PUnit.unit)))), (9, B true), (10, B false), (11, (I off).pr ((AV.os 1 0).pr ((AV.os 0 0).pr (AV.d Ty.unit PUnit.unit)))), (12, AV.fn (Fn.func 132) [] [AV.op 9 [] 0])], hp := [(0, AObj.arr 3 (i64T) 0 false ss), (1, AObj.arr 3 (i64T) 0 false ds), (9, AObj.box ((I off).pr ((AV.os 1 0).pr ((AV.os 0 0).pr (AV.d Ty.unit PUnit.unit))))), (8, AObj.box AV.nils), (0, AObj.arr 3 (i64T) 0 false ss), (1, AObj.arr 3 (i64T) 0 false ds), (5, AObj.box (I 0)), (4, AObj.box AV.nils), (3, AObj.box (AV.d (i64T).slice l)), (2, AObj.box ((I off).pr ((AV.os 1 0).pr ((AV.os 0 0).pr (AV.d Ty.unit PUnit.unit))))), (0, AObj.arr 3 (i64T) 0 false ss), (1, AObj.arr 3 (i64T) 0 false ds)], nx := 12 } (blkK 0 (seqQ (gVr F) cf_reb (rfp (gVr F) cf_reb) (cR (cR (cR (cR C_reb)))) (endC Tryz.prog 2 Tryz.f79.results.toList ah)))
  else none := runQ_runC.trans (rbr_eqH (rfp (gVr F) cf_reb) F off ds ss l)
theorem rbr_rf (F : FnE) (off : Int) (ds ss l : List Int) (k : AEx → LSt → Option (AEnd × LHp)) : exC (gVr F) cf_reb (cL (cR (cL (cR (cR (cR C_reb)))))) ⟨frVb off l, hpVb off ds ss l, 12⟩ k =
    F.run [.ref 8, .op 0 [] 0] (hpYb off ds ss l .nils) (callK [9, 8, 5, 4, 3, 2, 0, 1, 12] (hpVb2 off ds ss l) 13 (rfK (frVb off l) (hpVb2 off ds ss l) 12 k) (rfP (frVb off l) (hpVb2 off ds ss l) 12 k)) := by kernel_rfl
noncomputable def RKr (F : FnE) : AEx → LSt → Option (AEnd × LHp) := blkK 0 (seqQ (gVr F) cf_reb (rfp (gVr F) cf_reb) (cR (cR (cR (cR C_reb)))) (endC Tryz.prog 2 Tryz.f79.results.toList ah))
theorem rbr_fin (F : FnE) (off : Int) (ds ss l out : List Int) : callK [9, 8, 5, 4, 3, 2, 0, 1, 12] (hpVb2 off ds ss l) 13 (rfK (frVb off l) (hpVb2 off ds ss l) 12 (RKr F)) (rfP (frVb off l) (hpVb2 off ds ss l) 12 (RKr F)) (.ret []) (hpYbW off ds ss l out) =
  some (AEnd.ret [AV.os 2 0, I 0], [(0, AObj.arr 3 (i64T) 0 false ss), (1, AObj.arr 3 (i64T) 0 false ds), (2, AObj.arr 2 (i64T) 0 false out)]) := by kernel_rfl
end Go.Proofs.XGT
namespace Go.Proofs.XGT
open Go.Vm Go
set_option maxRecDepth 100000
set_option maxHeartbeats 4000000
theorem tab_getD (xs : List Int) : tab xs.length (fun m => xs.getD m 0) = xs := by
  apply List.ext_getElem?
  intro m
  by_cases h : m < xs.length
  · rw [tab_get h, List.getD_eq_getElem?_getD, List.getElem?_eq_getElem h]
    rfl
  · rw [List.getElem?_eq_none (by rw [tab_length]; omega), List.getElem?_eq_none (by omega)]
/-- xs is an order of 0, 1, .. -/
def ordB (xs : List Int) : Bool := decide (xs.length ≤ 65536 ∧ (∀ m, m < xs.length → 0 ≤ xs.getD m 0 ∧ xs.getD m 0 < xs.length) ∧ ∀ a, a < xs.length → ∀ b, b < xs.length → xs.getD a 0 = xs.getD b 0 → a = b)
def upTo (n : Nat) : List Int := tab n fun m => (m : Int)
def isoT : List AV → LHp → Tq
  | [.os 0 0, .d (.int .i64) z, .d (.int .i64) n], [(0, .arr 3 (.int .i64) 0 false xs)] => .br (decide (z = 0 ∧ n = xs.length)) (.br (ordB xs) (.leaf (.ret []) (hpIs (upTo xs.length))) .no) .no
  | _, _ => .no
theorem isoT_ok : FnE.OK e0.P e0.gam 192 (treeE isoT) := by
  have h1 : FnE.OK e0.P e0.gam 192 (execFnC gIs Tryz.f192 6 [(1, [0, 1, 2, 6]), (4, [0, 1, 2, 6, 7])]) := execFnC_ok gIs_good hmix Tryz.func192 Tryz.call192 (by decide +kernel) rfl
  refine ⟨fun _ _ _ => Tq.eq _ _, fun args hs ae hs' h => ?_⟩
  have h' : (isoT args hs).run ah = some (ae, hs') := h
  clear h
  unfold isoT at h'
  split at h'
  · rename_i z n xs
    obtain ⟨hb, h2⟩ := Tq.br_no h'
    obtain ⟨hb2, h3⟩ := Tq.br_no h2
    obtain ⟨rfl, rfl⟩ := of_decide_eq_true hb
    obtain ⟨c1, c2, c3⟩ := of_decide_eq_true hb2
    cases h3
    have key := iso_run (N := xs.length) c1 (g := fun m => xs.getD m 0) ⟨c2, fun a b ha hb e => c3 a ha b hb e⟩
    rw [tab_getD] at key
    exact h1.okC key
  · cases h'
noncomputable def pdE : FnE := execFnC (g139.add 192 (treeElse isoT y192)) Tryz.f171 8 [(2, [0, 1, 2, 3, 8, 9])]
theorem pdE_ok : FnE.OK e0.P e0.gam 171 pdE := execFnC_ok (g139_good.add (treeElse_ok isoT_ok y192_ok)) hmix Tryz.func171 Tryz.call171 (by decide +kernel) rfl
noncomputable def soE : FnE := execFnC (g140.add 171 pdE) Tryz.f134 4 []
theorem soE_ok : FnE.OK e0.P e0.gam 134 soE := execFnC_ok (g140_good.add pdE_ok) hmix Tryz.func134 Tryz.call134 (by decide +kernel) rfl
noncomputable def gSt : Env := g195.add 134 soE
theorem gSt_good : gSt.Good := g195_good.add soE_ok
noncomputable def stE : FnE := execFnC gSt Tryz.f108 4 []
theorem stE_ok : FnE.OK e0.P e0.gam 108 stE := execFnC_ok gSt_good hmix Tryz.func108 Tryz.call108 (by decide +kernel) rfl
noncomputable def gVt : Env := (g198.add 108 stE).add 75 (treeE vfiT)
theorem gVt_good : gVt.Good := (g198_good.add stE_ok).add vfiT_ok
end Go.Proofs.XGT
namespace Go.Proofs.XGT
open Go.Vm Go
set_option maxRecDepth 100000
set_option maxHeartbeats 1000000
theorem rbr_go (F : FnE) (off : Int) (ds ss l out : List Int) (h : ∀ (k : AEnd → LHp → Option (AEnd × LHp)), F.run [.ref 8, .op 0 [] 0] (hpYb off ds ss l .nils) k = k (.ret []) (hpYbW off ds ss l out)) :
    exC (gVr F) cf_reb (cL (cR (cL (cR (cR (cR C_reb)))))) ⟨frVb off l, hpVb off ds ss l, 12⟩ (RKr F) = some (.ret [.os 2 0, I 0], [(0, .arr 3 i64T 0 false ss), (1, .arr 3 i64T 0 false ds), (2, .arr 2 i64T 0 false out)]) := by
  rw [rbr_rf, h, rbr_fin]
theorem foldl_ints : ∀ (ds : List Nat) (a : Int), (ints ds).foldl (· * ·) a = a * (prodN ds : Nat)
  | [], a => by show a = a * ((1 : Nat) : Int); rw [Int.natCast_one, Int.mul_one]
  | d :: r, a => by
    show (ints r).foldl (· * ·) (a * (d : Int)) = a * ((d * prodN r : Nat) : Int)
    rw [foldl_ints r, Int.mul_assoc, Int.natCast_mul]
theorem prodI_ints (ds : List Nat) : prodI (ints ds) = (prodN ds : Nat) := by
  unfold prodI
  rw [foldl_ints, Int.one_mul]
theorem ints_nat : ∀ {xs : List Int}, (∀ x ∈ xs, 0 ≤ x) → ints (xs.map Int.toNat) = xs
  | [], _ => rfl
  | x :: r, h => by
    show ((x.toNat : Nat) : Int) :: ints (r.map Int.toNat) = x :: r
    rw [ints_nat fun y hy => h y (by simp [hy]), Int.toNat_of_nonneg (h x (by simp))]
theorem far_ok {s : Int} (h : farB s = false) : 0 ≤ s ∧ s ≤ 65536 := by
  unfold farB at h
  by_cases h1 : s < 0
  · rw [decide_eq_true h1] at h; cases h
  · rw [decide_eq_false h1] at h
    have := of_decide_eq_false h
    omega
/-- every number that the view shows is there -/
def inL (off : Int) (ds ss : List Int) (l : List Int) : Bool := decide (∀ q, q < prodN (ds.map Int.toNat) → off.toNat + dot (dig (ds.map Int.toNat) q) (ss.map Int.toNat) < l.length)
def okRG (off : Int) (ds ss l : List Int) : Bool := okFine off ds ss && inL off ds ss l
def rdG (off : Int) (ds ss l : List Int) : List Int := vwL off.toNat (ds.map Int.toNat) (ss.map Int.toNat) l
theorem le_prodN {ds : List Nat} (h : ∀ d ∈ ds, 1 ≤ d) : ∀ d ∈ ds, d ≤ prodN ds := by
  induction ds with
  | nil => intro d hd; cases hd
  | cons a r ih =>
    intro d hd
    have h1 := h a (by simp)
    have h2 : ∀ x ∈ r, 1 ≤ x := fun x hx => h x (by simp [hx])
    have h3 := prodN_pos h2
    rcases List.mem_cons.1 hd with rfl | hd
    · exact Nat.le_mul_of_pos_right _ h3
    · exact Nat.le_trans (ih h2 d hd) (Nat.le_mul_of_pos_left _ h1)
theorem rbr_run {off : Int} {ds ss l : List Int} (h : okRG off ds ss l = true) : runC (gVr y132) Tryz.f79 5 [(5, [0, 1, 2, 3, 4, 5, 6, 14, 15, 16, 17, 18, 19, 20, 21, 22, 23, 24])] [vwB off 1 0, .d (.slice i64T) l] (hpDs ds ss) ah = some (.ret [.os 2 0, I 0], [(0, .arr 3 i64T 0 false ss), (1, .arr 3 i64T 0 false ds), (2, .arr 2 i64T 0 false (rdG off ds ss l))]) := by
  unfold okRG at h
  simp only [Bool.and_eq_true] at h
  obtain ⟨hf, hi⟩ := h
  obtain ⟨c1, c2, c3, c4, c5⟩ := of_decide_eq_true hf
  have hi := of_decide_eq_true hi
  obtain ⟨p1, p2, p3, _⟩ := count_ok c1
  have ed : ints (ds.map Int.toNat) = ds := ints_nat fun x hx => by have := p1 x hx; omega
  have es : ints (ss.map Int.toNat) = ss := ints_nat fun x hx => (far_ok (c5 x hx)).1
  have eo : ((off.toNat : Nat) : Int) = off := Int.toNat_of_nonneg c3
  have d1 : ∀ d ∈ ds.map Int.toNat, 1 ≤ d := fun d hd => by
    obtain ⟨x, hx, rfl⟩ := List.mem_map.1 hd
    have := p1 x hx
    omega
  have hN : prodN (ds.map Int.toNat) ≤ 65536 := by
    have e := prodI_ints (ds.map Int.toNat)
    rw [ed] at e
    omega
  have s1 : ∀ s ∈ ss.map Int.toNat, s ≤ 65536 := fun s hs => by
    obtain ⟨x, hx, rfl⟩ := List.mem_map.1 hs
    have := far_ok (c5 x hx)
    omega
  have key := plbG_run (off := off.toNat) (l := l) (ds := ds.map Int.toNat) (ss := ss.map Int.toNat) (by rw [List.length_map, List.length_map]; exact c2) d1 (fun d hd => Nat.le_trans (le_prodN d1 d hd) hN) s1 (by rw [List.length_map]; exact p2) (by omega) hN hi
  rw [ed, es, eo] at key
  refine Eq.trans (b := exC (gVr y132) cf_reb (cL (cR (cL (cR (cR (cR C_reb)))))) ⟨frVb off l, hpVb off ds ss l, 12⟩ (RKr y132)) ((rbr_eq y132 off ds ss l).trans (by rw [hf, cond_true]; kernel_rfl)) ?_
  exact rbr_go _ _ _ _ _ _ fun k => (plbE_eqv _ _ k).trans (runC_kw g163_good key k)
def reaG : List AV → LHp → Tq
  | [.pr (.d (.int .i64) off) (.pr (.os 1 0) (.pr (.os 0 0) (.d .unit ()))), .d (.slice (.int .i64)) l], [(0, .arr 3 (.int .i64) 0 false ss), (1, .arr 3 (.int .i64) 0 false ds)] =>
    .br (okRG off ds ss l) (.leaf (.ret [.os 2 0, I 0]) [(0, .arr 3 i64T 0 false ss), (1, .arr 3 i64T 0 false ds), (2, .arr 2 i64T 0 false (rdG off ds ss l))]) .no
  | _, _ => .no
theorem reaG_ok : FnE.OK e0.P e0.gam 79 (treeE reaG) := by
  have h1 : FnE.OK e0.P e0.gam 79 (execFnC (gVr y132) Tryz.f79 5 [(5, [0, 1, 2, 3, 4, 5, 6, 14, 15, 16, 17, 18, 19, 20, 21, 22, 23, 24])]) := execFnC_ok gVr_good hmix Tryz.func79 Tryz.call79 (by decide +kernel) rfl
  refine ⟨fun _ _ _ => Tq.eq _ _, fun args hs ae hs' h => ?_⟩
  have h' : (reaG args hs).run ah = some (ae, hs') := h
  clear h
  unfold reaG at h'
  split at h'
  · obtain ⟨hb, h2⟩ := Tq.br_no h'
    cases h2
    exact h1.okC (rbr_run hb)
  · cases h'
end Go.Proofs.XGT
namespace Go.Proofs.XGT
open Go.Vm Go
set_option maxRecDepth 100000
set_option maxHeartbeats 4000000
noncomputable def vtE : FnE := execFnC gVt Tryz.f80 7 [(4, [1, 2, 4, 17, 18, 19]), (13, [2, 4, 8, 38, 39, 40])]
theorem vtE_ok : FnE.OK e0.P e0.gam 80 vtE := execFnC_ok gVt_good hmix Tryz.func80 Tryz.call80 (by decide +kernel) rfl
noncomputable def rgE : FnE := execFnC (g214.add 79 (treeE reaG)) Tryz.f46 4 []
theorem rgE_ok : FnE.OK e0.P e0.gam 46 rgE := execFnC_ok (g214_good.add reaG_ok) hmix Tryz.func46 Tryz.call46 (by decide +kernel) rfl
noncomputable def gMq : Env := (g215.add 46 rgE).add 80 vtE
theorem gMq_good : gMq.Good := (g215_good.add rgE_ok).add vtE_ok
theorem mq1_eq (t a0 p0 : Int) (x : List Int) : runC gMq Tryz.f47 6 [(3, [2, 3, 5, 14, 15]), (9, [3, 7, 25, 26, 27])] [nodeA strTR [] [121] (.os 1 0) (.os 0 0), .d (Y0) (t, [a0], x, ())] (hpN true false [lattr strPerm [p0]] [[120]]) ah =
  bif countE [a0] != 0 then 
    bif countE [a0] != 0 then none
    else none
  else 
    bif okFine 0 [a0] [1] then 
      bif ordB [p0] then (idx [a0] p0).bind fun v3 =>
          ([a0][p0.toNat]?).bind fun v4 =>
            (idx [(1 : Int)] p0).bind fun v5 =>
              ([(1 : Int)][p0.toNat]?).bind fun v6 =>
                bif okRG 0 [v4] [v6] x then some (AEnd.ret [AV.os 2 0], [(0, AObj.arr 37 (Ty.str.pair ((i64T).pair ((i64T).pair ((i64T).pair (Ty.str.pair (((i64T).pair ((i64T).slice.pair ((i64T).slice.pair Ty.unit))).pair ((i64T).slice.pair Ty.unit))))))) 0 true [([112, 101, 114, 109], 7, 0, 0, [], (0, [], [], PUnit.unit), [p0], PUnit.unit)]), (1, AObj.arr 9 Ty.str 0 false [[120]]), (2, AObj.arr 2 (i64T) 0 false (rdG 0 [v4] [v6] x))])
                else none
      else none
    else none := by kernel_rfl
theorem mq2_eq (t a0 a1 p0 p1 : Int) (x : List Int) : runC gMq Tryz.f47 6 [(3, [2, 3, 5, 14, 15]), (9, [3, 7, 25, 26, 27])] [nodeA strTR [] [121] (.os 1 0) (.os 0 0), .d (Y0) (t, [a0, a1], x, ())] (hpN true false [lattr strPerm [p0, p1]] [[120]]) ah =
  bif countE [a0, a1] != 0 then 
    bif countE [a0, a1] != 0 then none
    else none
  else 
    bif okFine 0 [a0, a1] [IntKind.i64.wrap (1 * a1), 1] then 
      bif ordB [p0, p1] then (idx [a0, a1] p0).bind fun v3 =>
          ([a0, a1][p0.toNat]?).bind fun v4 =>
            (idx [IntKind.i64.wrap (1 * a1), 1] p0).bind fun v5 =>
              ([IntKind.i64.wrap (1 * a1), 1][p0.toNat]?).bind fun v6 =>
                (idx [a0, a1] p1).bind fun v7 =>
                  ([a0, a1][p1.toNat]?).bind fun v8 =>
                    (idx [IntKind.i64.wrap (1 * a1), 1] p1).bind fun v9 =>
                      ([IntKind.i64.wrap (1 * a1), 1][p1.toNat]?).bind fun v10 =>
                        bif okRG 0 [v4, v8] [v6, v10] x then some (AEnd.ret [AV.os 2 0], [(0, AObj.arr 37 (Ty.str.pair ((i64T).pair ((i64T).pair ((i64T).pair (Ty.str.pair (((i64T).pair ((i64T).slice.pair ((i64T).slice.pair Ty.unit))).pair ((i64T).slice.pair Ty.unit))))))) 0 true [([112, 101, 114, 109], 7, 0, 0, [], (0, [], [], PUnit.unit), [p0, p1], PUnit.unit)]), (1, AObj.arr 9 Ty.str 0 false [[120]]), (2, AObj.arr 2 (i64T) 0 false (rdG 0 [v4, v8] [v6, v10] x))])
                        else none
      else none
    else none := by kernel_rfl
theorem mq3_eq (t a0 a1 a2 p0 p1 p2 : Int) (x : List Int) : runC gMq Tryz.f47 6 [(3, [2, 3, 5, 14, 15]), (9, [3, 7, 25, 26, 27])] [nodeA strTR [] [121] (.os 1 0) (.os 0 0), .d (Y0) (t, [a0, a1, a2], x, ())] (hpN true false [lattr strPerm [p0, p1, p2]] [[120]]) ah =
  bif countE [a0, a1, a2] != 0 then 
    bif countE [a0, a1, a2] != 0 then none
    else none
  else 
    bif okFine 0 [a0, a1, a2] [IntKind.i64.wrap (IntKind.i64.wrap (1 * a2) * a1), IntKind.i64.wrap (1 * a2), 1] then 
      bif ordB [p0, p1, p2] then (idx [a0, a1, a2] p0).bind fun v3 =>
          ([a0, a1, a2][p0.toNat]?).bind fun v4 =>
            (idx [IntKind.i64.wrap (IntKind.i64.wrap (1 * a2) * a1), IntKind.i64.wrap (1 * a2), 1] p0).bind fun v5 =>
              ([IntKind.i64.wrap (IntKind.i64.wrap (1 * a2) * a1), IntKind.i64.wrap (1 * a2), 1][p0.toNat]?).bind fun v6 =>
                (idx [a0, a1, a2] p1).bind fun v7 =>
                  ([a0, a1, a2][p1.toNat]?).bind fun v8 =>
                    (idx [IntKind.i64.wrap (IntKind.i64.wrap (1 * a2) * a1), IntKind.i64.wrap (1 * a2), 1] p1).bind fun v9 =>
                      ([IntKind.i64.wrap (IntKind.i64.wrap (1 * a2) * a1), IntKind.i64.wrap (1 * a2), 1][p1.toNat]?).bind fun v10 =>
                        (idx [a0, a1, a2] p2).bind fun v11 =>
                          ([a0, a1, a2][p2.toNat]?).bind fun v12 =>
                            (idx [IntKind.i64.wrap (IntKind.i64.wrap (1 * a2) * a1), IntKind.i64.wrap (1 * a2), 1] p2).bind fun v13 =>
                              ([IntKind.i64.wrap (IntKind.i64.wrap (1 * a2) * a1), IntKind.i64.wrap (1 * a2), 1][p2.toNat]?).bind fun v14 =>
                                bif okRG 0 [v4, v8, v12] [v6, v10, v14] x then some (AEnd.ret [AV.os 2 0], [(0, AObj.arr 37 (Ty.str.pair ((i64T).pair ((i64T).pair ((i64T).pair (Ty.str.pair (((i64T).pair ((i64T).slice.pair ((i64T).slice.pair Ty.unit))).pair ((i64T).slice.pair Ty.unit))))))) 0 true [([112, 101, 114, 109], 7, 0, 0, [], (0, [], [], PUnit.unit), [p0, p1, p2], PUnit.unit)]), (1, AObj.arr 9 Ty.str 0 false [[120]]), (2, AObj.arr 2 (i64T) 0 false (rdG 0 [v4, v8, v12] [v6, v10, v14] x))])
                                else none
      else none
    else none := by kernel_rfl
theorem mq4_eq (t a0 a1 a2 a3 p0 p1 p2 p3 : Int) (x : List Int) : runC gMq Tryz.f47 6 [(3, [2, 3, 5, 14, 15]), (9, [3, 7, 25, 26, 27])] [nodeA strTR [] [121] (.os 1 0) (.os 0 0), .d (Y0) (t, [a0, a1, a2, a3], x, ())] (hpN true false [lattr strPerm [p0, p1, p2, p3]] [[120]]) ah =
  bif countE [a0, a1, a2, a3] != 0 then 
    bif countE [a0, a1, a2, a3] != 0 then none
    else none
  else 
    bif okFine 0 [a0, a1, a2, a3] [IntKind.i64.wrap (IntKind.i64.wrap (IntKind.i64.wrap (1 * a3) * a2) * a1), IntKind.i64.wrap (IntKind.i64.wrap (1 * a3) * a2), IntKind.i64.wrap (1 * a3), 1] then 
      bif ordB [p0, p1, p2, p3] then (idx [a0, a1, a2, a3] p0).bind fun v3 =>
          ([a0, a1, a2, a3][p0.toNat]?).bind fun v4 =>
            (idx [IntKind.i64.wrap (IntKind.i64.wrap (IntKind.i64.wrap (1 * a3) * a2) * a1), IntKind.i64.wrap (IntKind.i64.wrap (1 * a3) * a2), IntKind.i64.wrap (1 * a3), 1] p0).bind fun v5 =>
              ([IntKind.i64.wrap (IntKind.i64.wrap (IntKind.i64.wrap (1 * a3) * a2) * a1), IntKind.i64.wrap (IntKind.i64.wrap (1 * a3) * a2), IntKind.i64.wrap (1 * a3), 1][p0.toNat]?).bind fun v6 =>
                (idx [a0, a1, a2, a3] p1).bind fun v7 =>
                  ([a0, a1, a2, a3][p1.toNat]?).bind fun v8 =>
                    (idx [IntKind.i64.wrap (IntKind.i64.wrap (IntKind.i64.wrap (1 * a3) * a2) * a1), IntKind.i64.wrap (IntKind.i64.wrap (1 * a3) * a2), IntKind.i64.wrap (1 * a3), 1] p1).bind fun v9 =>
                      ([IntKind.i64.wrap (IntKind.i64.wrap (IntKind.i64.wrap (1 * a3) * a2) * a1), IntKind.i64.wrap (IntKind.i64.wrap (1 * a3) * a2), IntKind.i64.wrap (1 * a3), 1][p1.toNat]?).bind fun v10 =>
                        (idx [a0, a1, a2, a3] p2).bind fun v11 =>
                          ([a0, a1, a2, a3][p2.toNat]?).bind fun v12 =>
                            (idx [IntKind.i64.wrap (IntKind.i64.wrap (IntKind.i64.wrap (1 * a3) * a2) * a1), IntKind.i64.wrap (IntKind.i64.wrap (1 * a3) * a2), IntKind.i64.wrap (1 * a3), 1] p2).bind fun v13 =>
                              ([IntKind.i64.wrap (IntKind.i64.wrap (IntKind.i64.wrap (1 * a3) * a2) * a1), IntKind.i64.wrap (IntKind.i64.wrap (1 * a3) * a2), IntKind.i64.wrap (1 * a3), 1][p2.toNat]?).bind fun v14 =>
                                (idx [a0, a1, a2, a3] p3).bind fun v15 =>
                                  ([a0, a1, a2, a3][p3.toNat]?).bind fun v16 =>
                                    (idx [IntKind.i64.wrap (IntKind.i64.wrap (IntKind.i64.wrap (1 * a3) * a2) * a1), IntKind.i64.wrap (IntKind.i64.wrap (1 * a3) * a2), IntKind.i64.wrap (1 * a3), 1] p3).bind fun v17 =>
                                      ([IntKind.i64.wrap (IntKind.i64.wrap (IntKind.i64.wrap (1 * a3) * a2) * a1), IntKind.i64.wrap (IntKind.i64.wrap (1 * a3) * a2), IntKind.i64.wrap (1 * a3), 1][p3.toNat]?).bind fun v18 =>
                                        bif okRG 0 [v4, v8, v12, v16] [v6, v10, v14, v18] x then some (AEnd.ret [AV.os 2 0], [(0, AObj.arr 37 (Ty.str.pair ((i64T).pair ((i64T).pair ((i64T).pair (Ty.str.pair (((i64T).pair ((i64T).slice.pair ((i64T).slice.pair Ty.unit))).pair ((i64T).slice.pair Ty.unit))))))) 0 true [([112, 101, 114, 109], 7, 0, 0, [], (0, [], [], PUnit.unit), [p0, p1, p2, p3], PUnit.unit)]), (1, AObj.arr 9 Ty.str 0 false [[120]]), (2, AObj.arr 2 (i64T) 0 false (rdG 0 [v4, v8, v12, v16] [v6, v10, v14, v18] x))])
                                        else none
      else none
    else none := by kernel_rfl
theorem mq5_eq (t a0 a1 a2 a3 a4 p0 p1 p2 p3 p4 : Int) (x : List Int) : runC gMq Tryz.f47 6 [(3, [2, 3, 5, 14, 15]), (9, [3, 7, 25, 26, 27])] [nodeA strTR [] [121] (.os 1 0) (.os 0 0), .d (Y0) (t, [a0, a1, a2, a3, a4], x, ())] (hpN true false [lattr strPerm [p0, p1, p2, p3, p4]] [[120]]) ah =
  bif countE [a0, a1, a2, a3, a4] != 0 then 
    bif countE [a0, a1, a2, a3, a4] != 0 then none
    else none
  else 
    bif okFine 0 [a0, a1, a2, a3, a4] [IntKind.i64.wrap (IntKind.i64.wrap (IntKind.i64.wrap (IntKind.i64.wrap (1 * a4) * a3) * a2) * a1), IntKind.i64.wrap (IntKind.i64.wrap (IntKind.i64.wrap (1 * a4) * a3) * a2), IntKind.i64.wrap (IntKind.i64.wrap (1 * a4) * a3), IntKind.i64.wrap (1 * a4), 1] then 
      bif ordB [p0, p1, p2, p3, p4] then (idx [a0, a1, a2, a3, a4] p0).bind fun v3 =>
          ([a0, a1, a2, a3, a4][p0.toNat]?).bind fun v4 =>
            (idx [IntKind.i64.wrap (IntKind.i64.wrap (IntKind.i64.wrap (IntKind.i64.wrap (1 * a4) * a3) * a2) * a1), IntKind.i64.wrap (IntKind.i64.wrap (IntKind.i64.wrap (1 * a4) * a3) * a2), IntKind.i64.wrap (IntKind.i64.wrap (1 * a4) * a3), IntKind.i64.wrap (1 * a4), 1] p0).bind fun v5 =>
              ([IntKind.i64.wrap (IntKind.i64.wrap (IntKind.i64.wrap (IntKind.i64.wrap (1 * a4) * a3) * a2) * a1), IntKind.i64.wrap (IntKind.i64.wrap (IntKind.i64.wrap (1 * a4) * a3) * a2), IntKind.i64.wrap (IntKind.i64.wrap (1 * a4) * a3), IntKind.i64.wrap (1 * a4), 1][p0.toNat]?).bind fun v6 =>
                (idx [a0, a1, a2, a3, a4] p1).bind fun v7 =>
                  ([a0, a1, a2, a3, a4][p1.toNat]?).bind fun v8 =>
                    (idx [IntKind.i64.wrap (IntKind.i64.wrap (IntKind.i64.wrap (IntKind.i64.wrap (1 * a4) * a3) * a2) * a1), IntKind.i64.wrap (IntKind.i64.wrap (IntKind.i64.wrap (1 * a4) * a3) * a2), IntKind.i64.wrap (IntKind.i64.wrap (1 * a4) * a3), IntKind.i64.wrap (1 * a4), 1] p1).bind fun v9 =>
                      ([IntKind.i64.wrap (IntKind.i64.wrap (IntKind.i64.wrap (IntKind.i64.wrap (1 * a4) * a3) * a2) * a1), IntKind.i64.wrap (IntKind.i64.wrap (IntKind.i64.wrap (1 * a4) * a3) * a2), IntKind.i64.wrap (IntKind.i64.wrap (1 * a4) * a3), IntKind.i64.wrap (1 * a4), 1][p1.toNat]?).bind fun v10 =>
                        (idx [a0, a1, a2, a3, a4] p2).bind fun v11 =>
                          ([a0, a1, a2, a3, a4][p2.toNat]?).bind fun v12 =>
                            (idx [IntKind.i64.wrap (IntKind.i64.wrap (IntKind.i64.wrap (IntKind.i64.wrap (1 * a4) * a3) * a2) * a1), IntKind.i64.wrap (IntKind.i64.wrap (IntKind.i64.wrap (1 * a4) * a3) * a2), IntKind.i64.wrap (IntKind.i64.wrap (1 * a4) * a3), IntKind.i64.wrap (1 * a4), 1] p2).bind fun v13 =>
                              ([IntKind.i64.wrap (IntKind.i64.wrap (IntKind.i64.wrap (IntKind.i64.wrap (1 * a4) * a3) * a2) * a1), IntKind.i64.wrap (IntKind.i64.wrap (IntKind.i64.wrap (1 * a4) * a3) * a2), IntKind.i64.wrap (IntKind.i64.wrap (1 * a4) * a3), IntKind.i64.wrap (1 * a4), 1][p2.toNat]?).bind fun v14 =>
                                (idx [a0, a1, a2, a3, a4] p3).bind fun v15 =>
                                  ([a0, a1, a2, a3, a4][p3.toNat]?).bind fun v16 =>
                                    (idx [IntKind.i64.wrap (IntKind.i64.wrap (IntKind.i64.wrap (IntKind.i64.wrap (1 * a4) * a3) * a2) * a1), IntKind.i64.wrap (IntKind.i64.wrap (IntKind.i64.wrap (1 * a4) * a3) * a2), IntKind.i64.wrap (IntKind.i64.wrap (1 * a4) * a3), IntKind.i64.wrap (1 * a4), 1] p3).bind fun v17 =>
                                      ([IntKind.i64.wrap (IntKind.i64.wrap (IntKind.i64.wrap (IntKind.i64.wrap (1 * a4) * a3) * a2) * a1), IntKind.i64.wrap (IntKind.i64.wrap (IntKind.i64.wrap (1 * a4) * a3) * a2), IntKind.i64.wrap (IntKind.i64.wrap (1 * a4) * a3), IntKind.i64.wrap (1 * a4), 1][p3.toNat]?).bind fun v18 =>
                                        (idx [a0, a1, a2, a3, a4] p4).bind fun v19 =>
                                          ([a0, a1, a2, a3, a4][p4.toNat]?).bind fun v20 =>
                                            (idx [IntKind.i64.wrap (IntKind.i64.wrap (IntKind.i64.wrap (IntKind.i64.wrap (1 * a4) * a3) * a2) * a1), IntKind.i64.wrap (IntKind.i64.wrap (IntKind.i64.wrap (1 * a4) * a3) * a2), IntKind.i64.wrap (IntKind.i64.wrap (1 * a4) * a3), IntKind.i64.wrap (1 * a4), 1] p4).bind fun v21 =>
                                              ([IntKind.i64.wrap (IntKind.i64.wrap (IntKind.i64.wrap (IntKind.i64.wrap (1 * a4) * a3) * a2) * a1), IntKind.i64.wrap (IntKind.i64.wrap (IntKind.i64.wrap (1 * a4) * a3) * a2), IntKind.i64.wrap (IntKind.i64.wrap (1 * a4) * a3), IntKind.i64.wrap (1 * a4), 1][p4.toNat]?).bind fun v22 =>
                                                bif okRG 0 [v4, v8, v12, v16, v20] [v6, v10, v14, v18, v22] x then some (AEnd.ret [AV.os 2 0], [(0, AObj.arr 37 (Ty.str.pair ((i64T).pair ((i64T).pair ((i64T).pair (Ty.str.pair (((i64T).pair ((i64T).slice.pair ((i64T).slice.pair Ty.unit))).pair ((i64T).slice.pair Ty.unit))))))) 0 true [([112, 101, 114, 109], 7, 0, 0, [], (0, [], [], PUnit.unit), [p0, p1, p2, p3, p4], PUnit.unit)]), (1, AObj.arr 9 Ty.str 0 false [[120]]), (2, AObj.arr 2 (i64T) 0 false (rdG 0 [v4, v8, v12, v16, v20] [v6, v10, v14, v18, v22] x))])
                                                else none
      else none
    else none := by kernel_rfl
theorem mq6_eq (t a0 a1 a2 a3 a4 a5 p0 p1 p2 p3 p4 p5 : Int) (x : List Int) : runC gMq Tryz.f47 6 [(3, [2, 3, 5, 14, 15]), (9, [3, 7, 25, 26, 27])] [nodeA strTR [] [121] (.os 1 0) (.os 0 0), .d (Y0) (t, [a0, a1, a2, a3, a4, a5], x, ())] (hpN true false [lattr strPerm [p0, p1, p2, p3, p4, p5]] [[120]]) ah =
  bif countE [a0, a1, a2, a3, a4, a5] != 0 then 
    bif countE [a0, a1, a2, a3, a4, a5] != 0 then none
    else none
  else 
    bif okFine 0 [a0, a1, a2, a3, a4, a5] [IntKind.i64.wrap (IntKind.i64.wrap (IntKind.i64.wrap (IntKind.i64.wrap (IntKind.i64.wrap (1 * a5) * a4) * a3) * a2) * a1), IntKind.i64.wrap (IntKind.i64.wrap (IntKind.i64.wrap (IntKind.i64.wrap (1 * a5) * a4) * a3) * a2), IntKind.i64.wrap (IntKind.i64.wrap (IntKind.i64.wrap (1 * a5) * a4) * a3), IntKind.i64.wrap (IntKind.i64.wrap (1 * a5) * a4), IntKind.i64.wrap (1 * a5), 1] then 
      bif ordB [p0, p1, p2, p3, p4, p5] then (idx [a0, a1, a2, a3, a4, a5] p0).bind fun v3 =>
          ([a0, a1, a2, a3, a4, a5][p0.toNat]?).bind fun v4 =>
            (idx [IntKind.i64.wrap (IntKind.i64.wrap (IntKind.i64.wrap (IntKind.i64.wrap (IntKind.i64.wrap (1 * a5) * a4) * a3) * a2) * a1), IntKind.i64.wrap (IntKind.i64.wrap (IntKind.i64.wrap (IntKind.i64.wrap (1 * a5) * a4) * a3) * a2), IntKind.i64.wrap (IntKind.i64.wrap (IntKind.i64.wrap (1 * a5) * a4) * a3), IntKind.i64.wrap (IntKind.i64.wrap (1 * a5) * a4), IntKind.i64.wrap (1 * a5), 1] p0).bind fun v5 =>
              ([IntKind.i64.wrap (IntKind.i64.wrap (IntKind.i64.wrap (IntKind.i64.wrap (IntKind.i64.wrap (1 * a5) * a4) * a3) * a2) * a1), IntKind.i64.wrap (IntKind.i64.wrap (IntKind.i64.wrap (IntKind.i64.wrap (1 * a5) * a4) * a3) * a2), IntKind.i64.wrap (IntKind.i64.wrap (IntKind.i64.wrap (1 * a5) * a4) * a3), IntKind.i64.wrap (IntKind.i64.wrap (1 * a5) * a4), IntKind.i64.wrap (1 * a5), 1][p0.toNat]?).bind fun v6 =>
                (idx [a0, a1, a2, a3, a4, a5] p1).bind fun v7 =>
                  ([a0, a1, a2, a3, a4, a5][p1.toNat]?).bind fun v8 =>
                    (idx [IntKind.i64.wrap (IntKind.i64.wrap (IntKind.i64.wrap (IntKind.i64.wrap (IntKind.i64.wrap (1 * a5) * a4) * a3) * a2) * a1), IntKind.i64.wrap (IntKind.i64.wrap (IntKind.i64.wrap (IntKind.i64.wrap (1 * a5) * a4) * a3) * a2), IntKind.i64.wrap (IntKind.i64.wrap (IntKind.i64.wrap (1 * a5) * a4) * a3), IntKind.i64.wrap (IntKind.i64.wrap (1 * a5) * a4), IntKind.i64.wrap (1 * a5), 1] p1).bind fun v9 =>
                      ([IntKind.i64.wrap (IntKind.i64.wrap (IntKind.i64.wrap (IntKind.i64.wrap (IntKind.i64.wrap (1 * a5) * a4) * a3) * a2) * a1), IntKind.i64.wrap (IntKind.i64.wrap (IntKind.i64.wrap (IntKind.i64.wrap (1 * a5) * a4) * a3) * a2), IntKind.i64.wrap (IntKind.i64.wrap (IntKind.i64.wrap (1 * a5) * a4) * a3), IntKind.i64.wrap (IntKind.i64.wrap (1 * a5) * a4), IntKind.i64.wrap (1 * a5), 1][p1.toNat]?).bind fun v10 =>
                        (idx [a0, a1, a2, a3, a4, a5] p2).bind fun v11 =>
                          ([a0, a1, a2, a3, a4, a5][p2.toNat]?).bind fun v12 =>
                            (idx [IntKind.i64.wrap (IntKind.i64.wrap (IntKind.i64.wrap (IntKind.i64.wrap (IntKind.i64.wrap (1 * a5) * a4) * a3) * a2) * a1), IntKind.i64.wrap (IntKind.i64.wrap (IntKind.i64.wrap (IntKind.i64.wrap (1 * a5) * a4) * a3) * a2), IntKind.i64.wrap (IntKind.i64.wrap (IntKind.i64.wrap (1 * a5) * a4) * a3), IntKind.i64.wrap (IntKind.i64.wrap (1 * a5) * a4), IntKind.i64.wrap (1 * a5), 1] p2).bind fun v13 =>
                              ([IntKind.i64.wrap (IntKind.i64.wrap (IntKind.i64.wrap (IntKind.i64.wrap (IntKind.i64.wrap (1 * a5) * a4) * a3) * a2) * a1), IntKind.i64.wrap (IntKind.i64.wrap (IntKind.i64.wrap (IntKind.i64.wrap (1 * a5) * a4) * a3) * a2), IntKind.i64.wrap (IntKind.i64.wrap (IntKind.i64.wrap (1 * a5) * a4) * a3), IntKind.i64.wrap (IntKind.i64.wrap (1 * a5) * a4), IntKind.i64.wrap (1 * a5), 1][p2.toNat]?).bind fun v14 =>
                                (idx [a0, a1, a2, a3, a4, a5] p3).bind fun v15 =>
                                  ([a0, a1, a2, a3, a4, a5][p3.toNat]?).bind fun v16 =>
                                    (idx [IntKind.i64.wrap (IntKind.i64.wrap (IntKind.i64.wrap (IntKind.i64.wrap (IntKind.i64.wrap (1 * a5) * a4) * a3) * a2) * a1), IntKind.i64.wrap (IntKind.i64.wrap (IntKind.i64.wrap (IntKind.i64.wrap (1 * a5) * a4) * a3) * a2), IntKind.i64.wrap (IntKind.i64.wrap (IntKind.i64.wrap (1 * a5) * a4) * a3), IntKind.i64.wrap (IntKind.i64.wrap (1 * a5) * a4), IntKind.i64.wrap (1 * a5), 1] p3).bind fun v17 =>
                                      ([IntKind.i64.wrap (IntKind.i64.wrap (IntKind.i64.wrap (IntKind.i64.wrap (IntKind.i64.wrap (1 * a5) * a4) * a3) * a2) * a1), IntKind.i64.wrap (IntKind.i64.wrap (IntKind.i64.wrap (IntKind.i64.wrap (1 * a5) * a4) * a3) * a2), IntKind.i64.wrap (IntKind.i64.wrap (IntKind.i64.wrap (1 * a5) * a4) * a3), IntKind.i64.wrap (IntKind.i64.wrap (1 * a5) * a4), IntKind.i64.wrap (1 * a5), 1][p3.toNat]?).bind fun v18 =>
                                        (idx [a0, a1, a2, a3, a4, a5] p4).bind fun v19 =>
                                          ([a0, a1, a2, a3, a4, a5][p4.toNat]?).bind fun v20 =>
                                            (idx [IntKind.i64.wrap (IntKind.i64.wrap (IntKind.i64.wrap (IntKind.i64.wrap (IntKind.i64.wrap (1 * a5) * a4) * a3) * a2) * a1), IntKind.i64.wrap (IntKind.i64.wrap (IntKind.i64.wrap (IntKind.i64.wrap (1 * a5) * a4) * a3) * a2), IntKind.i64.wrap (IntKind.i64.wrap (IntKind.i64.wrap (1 * a5) * a4) * a3), IntKind.i64.wrap (IntKind.i64.wrap (1 * a5) * a4), IntKind.i64.wrap (1 * a5), 1] p4).bind fun v21 =>
                                              ([IntKind.i64.wrap (IntKind.i64.wrap (IntKind.i64.wrap (IntKind.i64.wrap (IntKind.i64.wrap (1 * a5) * a4) * a3) * a2) * a1), IntKind.i64.wrap (IntKind.i64.wrap (IntKind.i64.wrap (IntKind.i64.wrap (1 * a5) * a4) * a3) * a2), IntKind.i64.wrap (IntKind.i64.wrap (IntKind.i64.wrap (1 * a5) * a4) * a3), IntKind.i64.wrap (IntKind.i64.wrap (1 * a5) * a4), IntKind.i64.wrap (1 * a5), 1][p4.toNat]?).bind fun v22 =>
                                                (idx [a0, a1, a2, a3, a4, a5] p5).bind fun v23 =>
                                                  ([a0, a1, a2, a3, a4, a5][p5.toNat]?).bind fun v24 =>
                                                    (idx [IntKind.i64.wrap (IntKind.i64.wrap (IntKind.i64.wrap (IntKind.i64.wrap (IntKind.i64.wrap (1 * a5) * a4) * a3) * a2) * a1), IntKind.i64.wrap (IntKind.i64.wrap (IntKind.i64.wrap (IntKind.i64.wrap (1 * a5) * a4) * a3) * a2), IntKind.i64.wrap (IntKind.i64.wrap (IntKind.i64.wrap (1 * a5) * a4) * a3), IntKind.i64.wrap (IntKind.i64.wrap (1 * a5) * a4), IntKind.i64.wrap (1 * a5), 1] p5).bind fun v25 =>
                                                      ([IntKind.i64.wrap (IntKind.i64.wrap (IntKind.i64.wrap (IntKind.i64.wrap (IntKind.i64.wrap (1 * a5) * a4) * a3) * a2) * a1), IntKind.i64.wrap (IntKind.i64.wrap (IntKind.i64.wrap (IntKind.i64.wrap (1 * a5) * a4) * a3) * a2), IntKind.i64.wrap (IntKind.i64.wrap (IntKind.i64.wrap (1 * a5) * a4) * a3), IntKind.i64.wrap (IntKind.i64.wrap (1 * a5) * a4), IntKind.i64.wrap (1 * a5), 1][p5.toNat]?).bind fun v26 =>
                                                        bif okRG 0 [v4, v8, v12, v16, v20, v24] [v6, v10, v14, v18, v22, v26] x then some (AEnd.ret [AV.os 2 0], [(0, AObj.arr 37 (Ty.str.pair ((i64T).pair ((i64T).pair ((i64T).pair (Ty.str.pair (((i64T).pair ((i64T).slice.pair ((i64T).slice.pair Ty.unit))).pair ((i64T).slice.pair Ty.unit))))))) 0 true [([112, 101, 114, 109], 7, 0, 0, [], (0, [], [], PUnit.unit), [p0, p1, p2, p3, p4, p5], PUnit.unit)]), (1, AObj.arr 9 Ty.str 0 false [[120]]), (2, AObj.arr 2 (i64T) 0 false (rdG 0 [v4, v8, v12, v16, v20, v24] [v6, v10, v14, v18, v22, v26] x))])
                                                        else none
      else none
    else none := by kernel_rfl
end Go.Proofs.XGT
namespace Go.Proofs.XGT
open Go.Vm Go
set_option maxRecDepth 100000
set_option maxHeartbeats 4000000
noncomputable def C_num : Code := codeOf Tryz.f160
noncomputable def cf_num : Cfg := ⟨47, 6, 3, [(4, [3, 4, 5, 14, 21, 22, 23])], true⟩
def hpNu (pm ot : List Int) : LHp := [(0, .arr 2 i64T 0 false ot), (1, .arr 37 (Y1) 0 true [lattr strPerm pm]), (2, .arr 9 .str 0 false [[120]])]
theorem num_eqH (hl : Hl) (c lo hi p : Int) (pm ot : List Int) : runH g106 Tryz.f160 6 [(4, [3, 4, 5, 14, 21, 22, 23])] [4] hl [nodeA strTR [] [121] (.os 2 0) (.os 1 0), .d .str strPerm, .os 0 0, I c, I lo, I hi] (hpNu (p :: pm) ot) ah =
  (app [] (p :: pm)).bind fun v0 =>
    hl (cL (cL (cR (cL (cR (cR (cR C_num))))))) _ { fr := mkFr 6 [(3, I c), (4, I lo), (5, I hi), (14, AV.nils), (21, AV.os 3 0), (22, I (Int.ofNat v0.length)), (23, I 0)], hp := [(0, AObj.arr 2 (i64T) 0 false ot), (1, AObj.arr 37 (Ty.str.pair ((i64T).pair ((i64T).pair ((i64T).pair (Ty.str.pair (((i64T).pair ((i64T).slice.pair ((i64T).slice.pair Ty.unit))).pair ((i64T).slice.pair Ty.unit))))))) 0 true [([112, 101, 114, 109], 7, 0, 0, [], (0, [], [], PUnit.unit), p :: pm, PUnit.unit)]), (2, AObj.arr 9 Ty.str 0 false [[120]]), (3, AObj.arr 2 (i64T) 0 false v0)], nx := 7 } (blkK 0 (seqH g106 cf_num [4] hl (cR (cR (cR (cR C_num)))) (endC Tryz.prog 3 Tryz.f160.results.toList ah))) := by kernel_rfl
theorem num_eq (c lo hi p : Int) (pm ot : List Int) : runC g106 Tryz.f160 6 [(4, [3, 4, 5, 14, 21, 22, 23])] [nodeA strTR [] [121] (.os 2 0) (.os 1 0), .d .str strPerm, .os 0 0, I c, I lo, I hi] (hpNu (p :: pm) ot) ah =
  (app [] (p :: pm)).bind fun v0 =>
    (hlp g106 cf_num) (cL (cL (cR (cL (cR (cR (cR C_num))))))) _ { fr := mkFr 6 [(3, I c), (4, I lo), (5, I hi), (14, AV.nils), (21, AV.os 3 0), (22, I (Int.ofNat v0.length)), (23, I 0)], hp := [(0, AObj.arr 2 (i64T) 0 false ot), (1, AObj.arr 37 (Ty.str.pair ((i64T).pair ((i64T).pair ((i64T).pair (Ty.str.pair (((i64T).pair ((i64T).slice.pair ((i64T).slice.pair Ty.unit))).pair ((i64T).slice.pair Ty.unit))))))) 0 true [([112, 101, 114, 109], 7, 0, 0, [], (0, [], [], PUnit.unit), p :: pm, PUnit.unit)]), (2, AObj.arr 9 Ty.str 0 false [[120]]), (3, AObj.arr 2 (i64T) 0 false v0)], nx := 7 } (blkK 0 (seqH g106 cf_num [4] (hlp g106 cf_num) (cR (cR (cR (cR C_num)))) (endC Tryz.prog 3 Tryz.f160.results.toList ah))) := runH_runC.trans (num_eqH (hlp g106 cf_num) c lo hi p pm ot)
def stNu0 (c lo hi : Int) (pm ot L : List Int) (i : Int) : LSt := { fr := mkFr 6 [(3, I c), (4, I lo), (5, I hi), (14, AV.nils), (21, AV.os 3 0), (22, I (Int.ofNat L.length)), (23, I i)], hp := hpNu pm ot ++ [(3, AObj.arr 2 i64T 0 false L)], nx := 7 }
theorem num_st0H (hl : Hl) (c lo hi : Int) (pm ot L : List Int) (i : Int) (n : Nat) {R : Type} (k : AEx → LSt → Option R) : lpH g106 cf_num [4] hl (cL (cL (cR (cL (cR (cR (cR C_num))))))) (n + 1) (stNu0 c lo hi pm ot L i) k =
  bif decide (i < Int.ofNat L.length) then (idx L i).bind fun v1 =>
      (L[i.toNat]?).bind fun v2 =>
        bif decide (lo ≤ v2) then 
          bif !decide (v2 ≤ hi) then k (AEx.panic 123 4) { fr := mkFr 6 [(3, I c), (4, I lo), (5, I hi), (14, AV.nils), (16, I v2), (21, AV.os 3 0), (22, I (Int.ofNat L.length)), (23, I i), (24, B true), (25, AV.oe 3 0 i.toNat), (26, I v2), (27, I lo), (28, I v2), (29, B (decide (lo ≤ v2))), (30, B true), (31, I v2), (32, I hi), (33, B (decide (v2 ≤ hi))), (34, B (decide (v2 ≤ hi)))], hp := [(0, AObj.arr 2 (i64T) 0 false ot), (1, AObj.arr 37 (Ty.str.pair ((i64T).pair ((i64T).pair ((i64T).pair (Ty.str.pair (((i64T).pair ((i64T).slice.pair ((i64T).slice.pair Ty.unit))).pair ((i64T).slice.pair Ty.unit))))))) 0 true [([112, 101, 114, 109], 7, 0, 0, [], (0, [], [], PUnit.unit), pm, PUnit.unit)]), (2, AObj.arr 9 Ty.str 0 false [[120]]), (3, AObj.arr 2 (i64T) 0 false L)], nx := 7 }
          else lpH g106 cf_num [4] hl (cL (cL (cR (cL (cR (cR (cR C_num))))))) n { fr := mkFr 6 [(3, I c), (4, I lo), (5, I hi), (14, AV.os 3 0), (21, AV.os 4 0), (22, I (Int.ofNat L.length)), (23, I (IntKind.i64.wrap (i + 1)))], hp := [(0, AObj.arr 2 (i64T) 0 false ot), (1, AObj.arr 37 (Ty.str.pair ((i64T).pair ((i64T).pair ((i64T).pair (Ty.str.pair (((i64T).pair ((i64T).slice.pair ((i64T).slice.pair Ty.unit))).pair ((i64T).slice.pair Ty.unit))))))) 0 true [([112, 101, 114, 109], 7, 0, 0, [], (0, [], [], PUnit.unit), pm, PUnit.unit)]), (2, AObj.arr 9 Ty.str 0 false [[120]]), (3, AObj.arr 3 (i64T) 0 false [v2]), (4, AObj.arr 2 (i64T) 0 false L)], nx := 8 } k
        else k (AEx.panic 123 4) { fr := mkFr 6 [(3, I c), (4, I lo), (5, I hi), (14, AV.nils), (16, I v2), (21, AV.os 3 0), (22, I (Int.ofNat L.length)), (23, I i), (24, B true), (25, AV.oe 3 0 i.toNat), (26, I v2), (27, I lo), (28, I v2), (29, B (decide (lo ≤ v2))), (30, B false), (31, AV.tup []), (32, AV.tup []), (33, AV.tup []), (34, B false)], hp := [(0, AObj.arr 2 (i64T) 0 false ot), (1, AObj.arr 37 (Ty.str.pair ((i64T).pair ((i64T).pair ((i64T).pair (Ty.str.pair (((i64T).pair ((i64T).slice.pair ((i64T).slice.pair Ty.unit))).pair ((i64T).slice.pair Ty.unit))))))) 0 true [([112, 101, 114, 109], 7, 0, 0, [], (0, [], [], PUnit.unit), pm, PUnit.unit)]), (2, AObj.arr 9 Ty.str 0 false [[120]]), (3, AObj.arr 2 (i64T) 0 false L)], nx := 7 }
  else k (AEx.exit 0) { fr := mkFr 6 [(3, I c), (4, I lo), (5, I hi), (14, AV.nils), (21, AV.os 3 0), (22, I (Int.ofNat L.length)), (23, I i), (24, B false)], hp := [(0, AObj.arr 2 (i64T) 0 false ot), (1, AObj.arr 37 (Ty.str.pair ((i64T).pair ((i64T).pair ((i64T).pair (Ty.str.pair (((i64T).pair ((i64T).slice.pair ((i64T).slice.pair Ty.unit))).pair ((i64T).slice.pair Ty.unit))))))) 0 true [([112, 101, 114, 109], 7, 0, 0, [], (0, [], [], PUnit.unit), pm, PUnit.unit)]), (2, AObj.arr 9 Ty.str 0 false [[120]]), (3, AObj.arr 2 (i64T) 0 false L)], nx := 7 } := by kernel_rfl
theorem num_st0 (c lo hi : Int) (pm ot L : List Int) (i : Int) (n : Nat) {R : Type} (k : AEx → LSt → Option R) : lp g106 cf_num (cL (cL (cR (cL (cR (cR (cR C_num))))))) (n + 1) (stNu0 c lo hi pm ot L i) k =
  bif decide (i < Int.ofNat L.length) then (idx L i).bind fun v1 =>
      (L[i.toNat]?).bind fun v2 =>
        bif decide (lo ≤ v2) then 
          bif !decide (v2 ≤ hi) then k (AEx.panic 123 4) { fr := mkFr 6 [(3, I c), (4, I lo), (5, I hi), (14, AV.nils), (16, I v2), (21, AV.os 3 0), (22, I (Int.ofNat L.length)), (23, I i), (24, B true), (25, AV.oe 3 0 i.toNat), (26, I v2), (27, I lo), (28, I v2), (29, B (decide (lo ≤ v2))), (30, B true), (31, I v2), (32, I hi), (33, B (decide (v2 ≤ hi))), (34, B (decide (v2 ≤ hi)))], hp := [(0, AObj.arr 2 (i64T) 0 false ot), (1, AObj.arr 37 (Ty.str.pair ((i64T).pair ((i64T).pair ((i64T).pair (Ty.str.pair (((i64T).pair ((i64T).slice.pair ((i64T).slice.pair Ty.unit))).pair ((i64T).slice.pair Ty.unit))))))) 0 true [([112, 101, 114, 109], 7, 0, 0, [], (0, [], [], PUnit.unit), pm, PUnit.unit)]), (2, AObj.arr 9 Ty.str 0 false [[120]]), (3, AObj.arr 2 (i64T) 0 false L)], nx := 7 }
          else lp g106 cf_num (cL (cL (cR (cL (cR (cR (cR C_num))))))) n { fr := mkFr 6 [(3, I c), (4, I lo), (5, I hi), (14, AV.os 3 0), (21, AV.os 4 0), (22, I (Int.ofNat L.length)), (23, I (IntKind.i64.wrap (i + 1)))], hp := [(0, AObj.arr 2 (i64T) 0 false ot), (1, AObj.arr 37 (Ty.str.pair ((i64T).pair ((i64T).pair ((i64T).pair (Ty.str.pair (((i64T).pair ((i64T).slice.pair ((i64T).slice.pair Ty.unit))).pair ((i64T).slice.pair Ty.unit))))))) 0 true [([112, 101, 114, 109], 7, 0, 0, [], (0, [], [], PUnit.unit), pm, PUnit.unit)]), (2, AObj.arr 9 Ty.str 0 false [[120]]), (3, AObj.arr 3 (i64T) 0 false [v2]), (4, AObj.arr 2 (i64T) 0 false L)], nx := 8 } k
        else k (AEx.panic 123 4) { fr := mkFr 6 [(3, I c), (4, I lo), (5, I hi), (14, AV.nils), (16, I v2), (21, AV.os 3 0), (22, I (Int.ofNat L.length)), (23, I i), (24, B true), (25, AV.oe 3 0 i.toNat), (26, I v2), (27, I lo), (28, I v2), (29, B (decide (lo ≤ v2))), (30, B false), (31, AV.tup []), (32, AV.tup []), (33, AV.tup []), (34, B false)], hp := [(0, AObj.arr 2 (i64T) 0 false ot), (1, AObj.arr 37 (Ty.str.pair ((i64T).pair ((i64T).pair ((i64T).pair (Ty.str.pair (((i64T).pair ((i64T).slice.pair ((i64T).slice.pair Ty.unit))).pair ((i64T).slice.pair Ty.unit))))))) 0 true [([112, 101, 114, 109], 7, 0, 0, [], (0, [], [], PUnit.unit), pm, PUnit.unit)]), (2, AObj.arr 9 Ty.str 0 false [[120]]), (3, AObj.arr 2 (i64T) 0 false L)], nx := 7 }
  else k (AEx.exit 0) { fr := mkFr 6 [(3, I c), (4, I lo), (5, I hi), (14, AV.nils), (21, AV.os 3 0), (22, I (Int.ofNat L.length)), (23, I i), (24, B false)], hp := [(0, AObj.arr 2 (i64T) 0 false ot), (1, AObj.arr 37 (Ty.str.pair ((i64T).pair ((i64T).pair ((i64T).pair (Ty.str.pair (((i64T).pair ((i64T).slice.pair ((i64T).slice.pair Ty.unit))).pair ((i64T).slice.pair Ty.unit))))))) 0 true [([112, 101, 114, 109], 7, 0, 0, [], (0, [], [], PUnit.unit), pm, PUnit.unit)]), (2, AObj.arr 9 Ty.str 0 false [[120]]), (3, AObj.arr 2 (i64T) 0 false L)], nx := 7 } := by
  have h := num_st0H (hlp g106 cf_num) c lo hi pm ot L i n k
  simp only [lpH_lp] at h
  exact h
def hpNv (pm ot out L : List Int) : LHp := hpNu pm ot ++ [(3, AObj.arr 3 i64T 0 false out), (4, AObj.arr 2 i64T 0 false L)]
def stNu1 (c lo hi : Int) (pm ot out L : List Int) (i : Int) : LSt := { fr := mkFr 6 [(3, I c), (4, I lo), (5, I hi), (14, AV.os 3 0), (21, AV.os 4 0), (22, I (Int.ofNat L.length)), (23, I i)], hp := hpNv pm ot out L, nx := 8 }
theorem num_st1H (hl : Hl) (c lo hi o : Int) (pm ot out L : List Int) (i : Int) (n : Nat) {R : Type} (k : AEx → LSt → Option R) : lpH g106 cf_num [4] hl (cL (cL (cR (cL (cR (cR (cR C_num))))))) (n + 1) (stNu1 c lo hi pm ot (o :: out) L i) k =
  bif decide (i < Int.ofNat L.length) then (idx L i).bind fun v1 =>
      (L[i.toNat]?).bind fun v2 =>
        bif decide (lo ≤ v2) then 
          bif !decide (v2 ≤ hi) then k (AEx.panic 123 4) { fr := mkFr 6 [(3, I c), (4, I lo), (5, I hi), (14, AV.os 3 0), (16, I v2), (21, AV.os 4 0), (22, I (Int.ofNat L.length)), (23, I i), (24, B true), (25, AV.oe 4 0 i.toNat), (26, I v2), (27, I lo), (28, I v2), (29, B (decide (lo ≤ v2))), (30, B true), (31, I v2), (32, I hi), (33, B (decide (v2 ≤ hi))), (34, B (decide (v2 ≤ hi)))], hp := [(0, AObj.arr 2 (i64T) 0 false ot), (1, AObj.arr 37 (Ty.str.pair ((i64T).pair ((i64T).pair ((i64T).pair (Ty.str.pair (((i64T).pair ((i64T).slice.pair ((i64T).slice.pair Ty.unit))).pair ((i64T).slice.pair Ty.unit))))))) 0 true [([112, 101, 114, 109], 7, 0, 0, [], (0, [], [], PUnit.unit), pm, PUnit.unit)]), (2, AObj.arr 9 Ty.str 0 false [[120]]), (3, AObj.arr 3 (i64T) 0 false (o :: out)), (4, AObj.arr 2 (i64T) 0 false L)], nx := 8 }
          else (app (o :: out) [v2]).bind fun v5 =>
              lpH g106 cf_num [4] hl (cL (cL (cR (cL (cR (cR (cR C_num))))))) n { fr := mkFr 6 [(3, I c), (4, I lo), (5, I hi), (14, AV.os 3 0), (21, AV.os 4 0), (22, I (Int.ofNat L.length)), (23, I (IntKind.i64.wrap (i + 1)))], hp := [(0, AObj.arr 2 (i64T) 0 false ot), (1, AObj.arr 37 (Ty.str.pair ((i64T).pair ((i64T).pair ((i64T).pair (Ty.str.pair (((i64T).pair ((i64T).slice.pair ((i64T).slice.pair Ty.unit))).pair ((i64T).slice.pair Ty.unit))))))) 0 true [([112, 101, 114, 109], 7, 0, 0, [], (0, [], [], PUnit.unit), pm, PUnit.unit)]), (2, AObj.arr 9 Ty.str 0 false [[120]]), (3, AObj.arr 3 (i64T) 0 false v5), (4, AObj.arr 2 (i64T) 0 false L)], nx := 8 } k
        else k (AEx.panic 123 4) { fr := mkFr 6 [(3, I c), (4, I lo), (5, I hi), (14, AV.os 3 0), (16, I v2), (21, AV.os 4 0), (22, I (Int.ofNat L.length)), (23, I i), (24, B true), (25, AV.oe 4 0 i.toNat), (26, I v2), (27, I lo), (28, I v2), (29, B (decide (lo ≤ v2))), (30, B false), (31, AV.tup []), (32, AV.tup []), (33, AV.tup []), (34, B false)], hp := [(0, AObj.arr 2 (i64T) 0 false ot), (1, AObj.arr 37 (Ty.str.pair ((i64T).pair ((i64T).pair ((i64T).pair (Ty.str.pair (((i64T).pair ((i64T).slice.pair ((i64T).slice.pair Ty.unit))).pair ((i64T).slice.pair Ty.unit))))))) 0 true [([112, 101, 114, 109], 7, 0, 0, [], (0, [], [], PUnit.unit), pm, PUnit.unit)]), (2, AObj.arr 9 Ty.str 0 false [[120]]), (3, AObj.arr 3 (i64T) 0 false (o :: out)), (4, AObj.arr 2 (i64T) 0 false L)], nx := 8 }
  else k (AEx.exit 0) { fr := mkFr 6 [(3, I c), (4, I lo), (5, I hi), (14, AV.os 3 0), (21, AV.os 4 0), (22, I (Int.ofNat L.length)), (23, I i), (24, B false)], hp := [(0, AObj.arr 2 (i64T) 0 false ot), (1, AObj.arr 37 (Ty.str.pair ((i64T).pair ((i64T).pair ((i64T).pair (Ty.str.pair (((i64T).pair ((i64T).slice.pair ((i64T).slice.pair Ty.unit))).pair ((i64T).slice.pair Ty.unit))))))) 0 true [([112, 101, 114, 109], 7, 0, 0, [], (0, [], [], PUnit.unit), pm, PUnit.unit)]), (2, AObj.arr 9 Ty.str 0 false [[120]]), (3, AObj.arr 3 (i64T) 0 false (o :: out)), (4, AObj.arr 2 (i64T) 0 false L)], nx := 8 } := by kernel_rfl
theorem num_st1 (c lo hi o : Int) (pm ot out L : List Int) (i : Int) (n : Nat) {R : Type} (k : AEx → LSt → Option R) : lp g106 cf_num (cL (cL (cR (cL (cR (cR (cR C_num))))))) (n + 1) (stNu1 c lo hi pm ot (o :: out) L i) k =
  bif decide (i < Int.ofNat L.length) then (idx L i).bind fun v1 =>
      (L[i.toNat]?).bind fun v2 =>
        bif decide (lo ≤ v2) then 
          bif !decide (v2 ≤ hi) then k (AEx.panic 123 4) { fr := mkFr 6 [(3, I c), (4, I lo), (5, I hi), (14, AV.os 3 0), (16, I v2), (21, AV.os 4 0), (22, I (Int.ofNat L.length)), (23, I i), (24, B true), (25, AV.oe 4 0 i.toNat), (26, I v2), (27, I lo), (28, I v2), (29, B (decide (lo ≤ v2))), (30, B true), (31, I v2), (32, I hi), (33, B (decide (v2 ≤ hi))), (34, B (decide (v2 ≤ hi)))], hp := [(0, AObj.arr 2 (i64T) 0 false ot), (1, AObj.arr 37 (Ty.str.pair ((i64T).pair ((i64T).pair ((i64T).pair (Ty.str.pair (((i64T).pair ((i64T).slice.pair ((i64T).slice.pair Ty.unit))).pair ((i64T).slice.pair Ty.unit))))))) 0 true [([112, 101, 114, 109], 7, 0, 0, [], (0, [], [], PUnit.unit), pm, PUnit.unit)]), (2, AObj.arr 9 Ty.str 0 false [[120]]), (3, AObj.arr 3 (i64T) 0 false (o :: out)), (4, AObj.arr 2 (i64T) 0 false L)], nx := 8 }
          else (app (o :: out) [v2]).bind fun v5 =>
              lp g106 cf_num (cL (cL (cR (cL (cR (cR (cR C_num))))))) n { fr := mkFr 6 [(3, I c), (4, I lo), (5, I hi), (14, AV.os 3 0), (21, AV.os 4 0), (22, I (Int.ofNat L.length)), (23, I (IntKind.i64.wrap (i + 1)))], hp := [(0, AObj.arr 2 (i64T) 0 false ot), (1, AObj.arr 37 (Ty.str.pair ((i64T).pair ((i64T).pair ((i64T).pair (Ty.str.pair (((i64T).pair ((i64T).slice.pair ((i64T).slice.pair Ty.unit))).pair ((i64T).slice.pair Ty.unit))))))) 0 true [([112, 101, 114, 109], 7, 0, 0, [], (0, [], [], PUnit.unit), pm, PUnit.unit)]), (2, AObj.arr 9 Ty.str 0 false [[120]]), (3, AObj.arr 3 (i64T) 0 false v5), (4, AObj.arr 2 (i64T) 0 false L)], nx := 8 } k
        else k (AEx.panic 123 4) { fr := mkFr 6 [(3, I c), (4, I lo), (5, I hi), (14, AV.os 3 0), (16, I v2), (21, AV.os 4 0), (22, I (Int.ofNat L.length)), (23, I i), (24, B true), (25, AV.oe 4 0 i.toNat), (26, I v2), (27, I lo), (28, I v2), (29, B (decide (lo ≤ v2))), (30, B false), (31, AV.tup []), (32, AV.tup []), (33, AV.tup []), (34, B false)], hp := [(0, AObj.arr 2 (i64T) 0 false ot), (1, AObj.arr 37 (Ty.str.pair ((i64T).pair ((i64T).pair ((i64T).pair (Ty.str.pair (((i64T).pair ((i64T).slice.pair ((i64T).slice.pair Ty.unit))).pair ((i64T).slice.pair Ty.unit))))))) 0 true [([112, 101, 114, 109], 7, 0, 0, [], (0, [], [], PUnit.unit), pm, PUnit.unit)]), (2, AObj.arr 9 Ty.str 0 false [[120]]), (3, AObj.arr 3 (i64T) 0 false (o :: out)), (4, AObj.arr 2 (i64T) 0 false L)], nx := 8 }
  else k (AEx.exit 0) { fr := mkFr 6 [(3, I c), (4, I lo), (5, I hi), (14, AV.os 3 0), (21, AV.os 4 0), (22, I (Int.ofNat L.length)), (23, I i), (24, B false)], hp := [(0, AObj.arr 2 (i64T) 0 false ot), (1, AObj.arr 37 (Ty.str.pair ((i64T).pair ((i64T).pair ((i64T).pair (Ty.str.pair (((i64T).pair ((i64T).slice.pair ((i64T).slice.pair Ty.unit))).pair ((i64T).slice.pair Ty.unit))))))) 0 true [([112, 101, 114, 109], 7, 0, 0, [], (0, [], [], PUnit.unit), pm, PUnit.unit)]), (2, AObj.arr 9 Ty.str 0 false [[120]]), (3, AObj.arr 3 (i64T) 0 false (o :: out)), (4, AObj.arr 2 (i64T) 0 false L)], nx := 8 } := by
  have h := num_st1H (hlp g106 cf_num) c lo hi o pm ot out L i n k
  simp only [lpH_lp] at h
  exact h
noncomputable def KN : AEx → LSt → Option (AEnd × LHp) := (blkK 0 (seqH g106 cf_num [4] (hlp g106 cf_num) (cR (cR (cR (cR C_num)))) (endC Tryz.prog 3 Tryz.f160.results.toList ah)))
def stNp (c lo hi v : Int) (q : AV) (i l : Int) (b : Bool) (r s : Nat) (hp : LHp) (nx : Nat) : LSt := { fr := mkFr 6 [(3, I c), (4, I lo), (5, I hi), (14, q), (16, I v), (21, AV.os r 0), (22, I l), (23, I i), (24, B true), (25, AV.oe s 0 i.toNat), (26, I v), (27, I lo), (28, I v), (29, B (decide (lo ≤ v))), (30, B true), (31, I v), (32, I hi), (33, B (decide (v ≤ hi))), (34, B b)], hp := hp, nx := nx }
def stNq (c lo hi v : Int) (q : AV) (i l : Int) (r s : Nat) (hp : LHp) (nx : Nat) : LSt := { fr := mkFr 6 [(3, I c), (4, I lo), (5, I hi), (14, q), (16, I v), (21, AV.os r 0), (22, I l), (23, I i), (24, B true), (25, AV.oe s 0 i.toNat), (26, I v), (27, I lo), (28, I v), (29, B (decide (lo ≤ v))), (30, B false), (31, AV.tup []), (32, AV.tup []), (33, AV.tup []), (34, B false)], hp := hp, nx := nx }
theorem kn_p0 (c lo hi v i l : Int) (b : Bool) (pm ot L : List Int) : KN (.panic 123 4) (stNp c lo hi v .nils i l b 3 3 (hpNu pm ot ++ [(3, AObj.arr 2 i64T 0 false L)]) 7) =
  some (AEnd.panic 123 4, [(0, AObj.arr 2 (i64T) 0 false ot), (1, AObj.arr 37 (Ty.str.pair ((i64T).pair ((i64T).pair ((i64T).pair (Ty.str.pair (((i64T).pair ((i64T).slice.pair ((i64T).slice.pair Ty.unit))).pair ((i64T).slice.pair Ty.unit))))))) 0 true [([112, 101, 114, 109], 7, 0, 0, [], (0, [], [], PUnit.unit), pm, PUnit.unit)]), (2, AObj.arr 9 Ty.str 0 false [[120]])]) := by kernel_rfl
theorem kn_q0 (c lo hi v i l : Int) (pm ot L : List Int) : KN (.panic 123 4) (stNq c lo hi v .nils i l 3 3 (hpNu pm ot ++ [(3, AObj.arr 2 i64T 0 false L)]) 7) =
  some (AEnd.panic 123 4, [(0, AObj.arr 2 (i64T) 0 false ot), (1, AObj.arr 37 (Ty.str.pair ((i64T).pair ((i64T).pair ((i64T).pair (Ty.str.pair (((i64T).pair ((i64T).slice.pair ((i64T).slice.pair Ty.unit))).pair ((i64T).slice.pair Ty.unit))))))) 0 true [([112, 101, 114, 109], 7, 0, 0, [], (0, [], [], PUnit.unit), pm, PUnit.unit)]), (2, AObj.arr 9 Ty.str 0 false [[120]])]) := by kernel_rfl
theorem kn_p1 (c lo hi v i l : Int) (b : Bool) (pm ot out L : List Int) : KN (.panic 123 4) (stNp c lo hi v (.os 3 0) i l b 4 4 (hpNv pm ot out L) 8) =
  some (AEnd.panic 123 4, [(0, AObj.arr 2 (i64T) 0 false ot), (1, AObj.arr 37 (Ty.str.pair ((i64T).pair ((i64T).pair ((i64T).pair (Ty.str.pair (((i64T).pair ((i64T).slice.pair ((i64T).slice.pair Ty.unit))).pair ((i64T).slice.pair Ty.unit))))))) 0 true [([112, 101, 114, 109], 7, 0, 0, [], (0, [], [], PUnit.unit), pm, PUnit.unit)]), (2, AObj.arr 9 Ty.str 0 false [[120]])]) := by kernel_rfl
theorem kn_q1 (c lo hi v i l : Int) (pm ot out L : List Int) : KN (.panic 123 4) (stNq c lo hi v (.os 3 0) i l 4 4 (hpNv pm ot out L) 8) =
  some (AEnd.panic 123 4, [(0, AObj.arr 2 (i64T) 0 false ot), (1, AObj.arr 37 (Ty.str.pair ((i64T).pair ((i64T).pair ((i64T).pair (Ty.str.pair (((i64T).pair ((i64T).slice.pair ((i64T).slice.pair Ty.unit))).pair ((i64T).slice.pair Ty.unit))))))) 0 true [([112, 101, 114, 109], 7, 0, 0, [], (0, [], [], PUnit.unit), pm, PUnit.unit)]), (2, AObj.arr 9 Ty.str 0 false [[120]])]) := by kernel_rfl
theorem kn_e1 (c lo hi i l : Int) (pm ot out L : List Int) : KN (.exit 0) { fr := mkFr 6 [(3, I c), (4, I lo), (5, I hi), (14, AV.os 3 0), (21, AV.os 4 0), (22, I l), (23, I i), (24, B false)], hp := hpNv pm ot out L, nx := 8 } =
  bif !Int.ofNat out.length == c then some (AEnd.panic 123 4, [(0, AObj.arr 2 (i64T) 0 false ot), (1, AObj.arr 37 (Ty.str.pair ((i64T).pair ((i64T).pair ((i64T).pair (Ty.str.pair (((i64T).pair ((i64T).slice.pair ((i64T).slice.pair Ty.unit))).pair ((i64T).slice.pair Ty.unit))))))) 0 true [([112, 101, 114, 109], 7, 0, 0, [], (0, [], [], PUnit.unit), pm, PUnit.unit)]), (2, AObj.arr 9 Ty.str 0 false [[120]])])
  else some (AEnd.ret [AV.os 3 0], [(0, AObj.arr 2 (i64T) 0 false ot), (1, AObj.arr 37 (Ty.str.pair ((i64T).pair ((i64T).pair ((i64T).pair (Ty.str.pair (((i64T).pair ((i64T).slice.pair ((i64T).slice.pair Ty.unit))).pair ((i64T).slice.pair Ty.unit))))))) 0 true [([112, 101, 114, 109], 7, 0, 0, [], (0, [], [], PUnit.unit), pm, PUnit.unit)]), (2, AObj.arr 9 Ty.str 0 false [[120]]), (3, AObj.arr 3 (i64T) 0 false out)]) := by kernel_rfl
end Go.Proofs.XGT
namespace Go.Proofs.XGT
open Go.Vm Go
set_option maxRecDepth 100000
set_option maxHeartbeats 1000000
/-- all numbers of a list lie between two -/
def allIn (lo hi : Int) (l : List Int) : Bool := l.all fun v => decide (lo ≤ v) && decide (v ≤ hi)
def numR (c lo hi : Int) (pm ot l : List Int) : Option (AEnd × LHp) := bif allIn lo hi l && (Int.ofNat pm.length == c) then some (.ret [.os 3 0], hpNu pm ot ++ [(3, .arr 3 i64T 0 false pm)]) else some (.panic 123 4, hpNu pm ot)
theorem num_loop {c lo hi : Int} {pm ot : List Int} (hl : pm.length ≤ 2147483648) : ∀ (r i n : Nat), i + r = pm.length → 1 ≤ i → r < n →
    lp g106 cf_num (cL (cL (cR (cL (cR (cR (cR C_num))))))) n (stNu1 c lo hi pm ot (pm.take i) pm (i : Nat)) KN = numR c lo hi pm ot (pm.drop i) := by
  intro r
  induction r with
  | zero =>
    intro i n hir h1 hn
    obtain ⟨n, rfl⟩ : ∃ m', n = m' + 1 := ⟨n - 1, by omega⟩
    rw [List.take_of_length_le (by omega), List.drop_eq_nil_of_le (by omega)]
    cases hpm : pm with
    | nil => rw [hpm] at hir; simp only [List.length_nil] at hir; omega
    | cons o out =>
      rw [hpm] at hir
      rw [num_st1, decide_eq_false (show ¬ ((i : Int) < Int.ofNat (o :: out).length) by simp only [Int.ofNat_eq_natCast]; omega), cond_false]
      refine (kn_e1 _ _ _ _ _ _ _ _ _).trans ?_
      unfold numR allIn
      simp only [List.all_nil, Bool.true_and]
      cases (Int.ofNat (o :: out).length == c) <;> rfl
  | succ r ih =>
    intro i n hir h1 hn
    obtain ⟨n, rfl⟩ : ∃ m', n = m' + 1 := ⟨n - 1, by omega⟩
    have hlt : i < pm.length := by omega
    have e0 : IntKind.i64.wrap ((i : Int) + 1) = ((i + 1 : Nat) : Int) := by rw [wrap64 (by omega) (by omega)]; omega
    have gx : pm[i]? = some pm[i] := List.getElem?_eq_getElem hlt
    have gi : idx pm (i : Int) = some pm[i] := by unfold idx; rw [if_pos (by omega), Int.toNat_natCast, gx]
    have ed : pm.drop i = pm[i] :: pm.drop (i + 1) := List.drop_eq_getElem_cons hlt
    have et : pm.take (i + 1) = pm.take i ++ [pm[i]] := (List.take_append_getElem hlt).symm
    have key := ih (i + 1) n (by omega) (by omega) (by omega)
    cases ht : pm.take i with
    | nil =>
      have := congrArg List.length ht
      rw [List.length_take, List.length_nil] at this
      omega
    | cons o out =>
      have hlen : (o :: out).length + [pm[i]].length ≤ lim := by rw [List.length_singleton, show lim = 4294967296 from rfl]; rw [← ht, List.length_take]; omega
      rw [num_st1, decide_eq_true (show ((i : Int) < Int.ofNat pm.length) by simp only [Int.ofNat_eq_natCast]; omega), cond_true, gi, Option.bind_some, Int.toNat_natCast, gx, Option.bind_some]
      cases h2 : decide (lo ≤ pm[i]) with
      | false =>
        have er : numR c lo hi pm ot (pm.drop i) = some (.panic 123 4, hpNu pm ot) := by
          unfold numR allIn
          rw [ed, List.all_cons, h2]
          rfl
        rw [er, cond_false]
        have x := kn_q1 c lo hi pm[i] (i : Int) (Int.ofNat pm.length) pm ot (o :: out) pm
        unfold stNq at x
        rw [h2] at x
        exact x
      | true =>
        rw [cond_true]
        cases h3 : decide (pm[i] ≤ hi) with
        | false =>
          have er : numR c lo hi pm ot (pm.drop i) = some (.panic 123 4, hpNu pm ot) := by
            unfold numR allIn
            rw [ed, List.all_cons, h2, h3]
            rfl
          rw [er, Bool.not_false, cond_true]
          have x := kn_p1 c lo hi pm[i] (i : Int) (Int.ofNat pm.length) false pm ot (o :: out) pm
          unfold stNp at x
          rw [h2, h3] at x
          exact x
        | true =>
          have er : numR c lo hi pm ot (pm.drop i) = numR c lo hi pm ot (pm.drop (i + 1)) := by
            unfold numR allIn
            rw [ed, List.all_cons, h2, h3]
            rfl
          rw [er, Bool.not_true, cond_false, app_eq hlen, Option.bind_some, e0, ← ht, ← et]
          exact key
end Go.Proofs.XGT
namespace Go.Proofs.XGT
open Go.Vm Go
set_option maxRecDepth 100000
set_option maxHeartbeats 1000000
theorem num_run {c lo hi p : Int} {pm ot : List Int} (hl : (p :: pm).length ≤ 2147483648) : runC g106 Tryz.f160 6 [(4, [3, 4, 5, 14, 21, 22, 23])] [nodeA strTR [] [121] (.os 2 0) (.os 1 0), .d .str strPerm, .os 0 0, I c, I lo, I hi] (hpNu (p :: pm) ot) ah = numR c lo hi (p :: pm) ot (p :: pm) := by
  have hf : fu = 18446744073709551616 := rfl
  have e1 : app [] (p :: pm) = some (p :: pm) := app_eq (by simp only [List.length_nil, lim]; omega)
  have key : runC g106 Tryz.f160 6 [(4, [3, 4, 5, 14, 21, 22, 23])] [nodeA strTR [] [121] (.os 2 0) (.os 1 0), .d .str strPerm, .os 0 0, I c, I lo, I hi] (hpNu (p :: pm) ot) ah = lp g106 cf_num (cL (cL (cR (cL (cR (cR (cR C_num))))))) fu (stNu0 c lo hi (p :: pm) ot (p :: pm) 0) KN := (num_eq c lo hi p pm ot).trans (by rw [e1, Option.bind_some]; kernel_rfl)
  obtain ⟨n, hn⟩ : ∃ n, fu = n + 1 := ⟨18446744073709551615, rfl⟩
  refine key.trans ?_
  rw [hn, num_st0, decide_eq_true (show ((0 : Int) < Int.ofNat (p :: pm).length) by simp only [Int.ofNat_eq_natCast, List.length_cons]; omega), cond_true, show idx (p :: pm) 0 = some p from rfl, Option.bind_some, show (p :: pm)[(0 : Int).toNat]? = some p from rfl, Option.bind_some]
  cases h2 : decide (lo ≤ p) with
  | false =>
    have er : numR c lo hi (p :: pm) ot (p :: pm) = some (.panic 123 4, hpNu (p :: pm) ot) := by
      unfold numR allIn
      rw [List.all_cons, h2]
      rfl
    rw [er, cond_false]
    have x := kn_q0 c lo hi p 0 (Int.ofNat (p :: pm).length) (p :: pm) ot (p :: pm)
    unfold stNq at x
    rw [h2] at x
    exact x
  | true =>
    rw [cond_true]
    cases h3 : decide (p ≤ hi) with
    | false =>
      have er : numR c lo hi (p :: pm) ot (p :: pm) = some (.panic 123 4, hpNu (p :: pm) ot) := by
        unfold numR allIn
        rw [List.all_cons, h2, h3]
        rfl
      rw [er, Bool.not_false, cond_true]
      have x := kn_p0 c lo hi p 0 (Int.ofNat (p :: pm).length) false (p :: pm) ot (p :: pm)
      unfold stNp at x
      rw [h2, h3] at x
      exact x
    | true =>
      have er : numR c lo hi (p :: pm) ot (p :: pm) = numR c lo hi (p :: pm) ot ((p :: pm).drop 1) := by
        unfold numR allIn
        rw [List.all_cons, h2, h3]
        rfl
      rw [er, Bool.not_true, cond_false]
      exact num_loop hl pm.length 1 n (by simp only [List.length_cons]; omega) (Nat.le_refl _) (by simp only [List.length_cons] at hl; omega)
end Go.Proofs.XGT
namespace Go.Proofs.XGT
open Go.Vm Go
set_option maxRecDepth 100000
set_option maxHeartbeats 4000000
def numC (c lo hi : Int) (l : List Int) : Bool := allIn lo hi l && (Int.ofNat l.length == c)
def numL (c lo hi : Int) (ot : List Int) : List Int → Tq
  | [] => .no
  | p :: pm => .br (decide ((p :: pm).length ≤ 2147483648)) (.br (numC c lo hi (p :: pm)) (.leaf (.ret [.os 3 0]) (hpNu (p :: pm) ot ++ [(3, .arr 3 i64T 0 false (p :: pm))])) (.leaf (.panic 123 4) (hpNu (p :: pm) ot))) .no
def numT : List AV → LHp → Tq
  | [n, .d .str nm, .os 0 0, .d (.int .i64) c, .d (.int .i64) lo, .d (.int .i64) hi], [(0, .arr 2 (.int .i64) 0 false ot), (1, .arr 37 ((.pair .str (.pair (.int .i64) (.pair (.int .i64) (.pair (.int .i64) (.pair .str (.pair (.pair (.int .i64) (.pair (.slice (.int .i64)) (.pair (.slice (.int .i64)) .unit))) (.pair (.slice (.int .i64)) .unit)))))))) 0 true [a]), (2, .arr 9 .str 0 false ins)] =>
    (match nodeP n with
    | some (op, nm2, out, .os 2 0, .os 1 0) => gate (decide (op = strTR) && decide (nm2 = []) && decide (out = [121]) && decide (ins = [[120]]) && decide (nm = strPerm) && isL a strPerm) (numL c lo hi ot a.2.2.2.2.2.2.1)
    | _ => .no)
  | _, _ => .no
theorem numT_ok : FnE.OK e0.P e0.gam 160 (treeE numT) := by
  have h1 : FnE.OK e0.P e0.gam 160 (execFnC g106 Tryz.f160 6 [(4, [3, 4, 5, 14, 21, 22, 23])]) := y160_ok
  refine ⟨fun _ _ _ => Tq.eq _ _, fun args hs ae hs' h => ?_⟩
  have h' : (numT args hs).run ah = some (ae, hs') := h
  clear h
  unfold numT at h'
  split at h'
  · split at h'
    · rename_i hn
      rw [nodeP_some hn]
      obtain ⟨hb, h2⟩ := gate_run h'
      clear h'
      simp only [Bool.and_eq_true, decide_eq_true_eq] at hb
      obtain ⟨⟨⟨⟨⟨b1, b2⟩, b3⟩, b4⟩, b5⟩, b6⟩ := hb
      subst b1 b2 b3 b4 b5
      obtain ⟨l, rfl⟩ := isL_eq b6
      change (numL _ _ _ _ l).run ah = _ at h2
      cases l with
      | nil => cases h2
      | cons p pm =>
        obtain ⟨hl, h3⟩ := Tq.br_no h2
        exact h1.okC ((num_run (of_decide_eq_true hl)).trans h3)
    · cases h'
  · cases h'
noncomputable def mkE : FnE := execFnC (g113.add 160 (treeElse numT y160)) Tryz.f162 6 [(6, [1, 6, 7, 24, 25, 26])]
theorem mkE_ok : FnE.OK e0.P e0.gam 162 mkE := execFnC_ok (g113_good.add (treeElse_ok numT_ok y160_ok)) hmix Tryz.func162 Tryz.call162 (by decide +kernel) rfl
noncomputable def mvT : FnE := execFnC (g149.add 162 mkE) Tryz.f127 7 []
theorem mvT_ok : FnE.OK e0.P e0.gam 127 mvT := execFnC_ok (g149_good.add mkE_ok) hmix Tryz.func127 Tryz.call127 (by decide +kernel) rfl
noncomputable def dmT : FnE := execFnC (g150.add 127 mvT) Tryz.f94 8 [(56, [3, 132, 133, 134])]
theorem dmT_ok : FnE.OK e0.P e0.gam 94 dmT := execFnC_ok (g150_good.add mvT_ok) hmix Tryz.func94 Tryz.call94 (by decide +kernel) rfl
noncomputable def ouT : FnE := execFnDC (g152.add 94 dmT) Tryz.f55 7 [(5, [1, 2, 4, 5, 26, 27, 28])] dd55
theorem ouT_ok : FnE.OK e0.P e0.gam 55 ouT := execFnDC_ok (g152_good.add dmT_ok) (execFnD_ok (D := dd55) (g152_good.add dmT_ok) hmix Tryz.func55 Tryz.call55 rfl rfl (by decide +kernel) rfl Tryz.func89 Tryz.call89 rfl rfl (by decide +kernel))
noncomputable def gBh : Env := g212.add 55 ouT
theorem gBh_good : gBh.Good := g212_good.add ouT_ok
def hpTb (z : Bool) (t : Int) (d x : List Int) (ats : List (Y1).den) : LHp := [(0, .arr 25 (Y0) 0 false [(t, d, x, ())]), (1, .arr 37 (Y1) 0 z ats), (2, .arr 9 .str 0 false [[120]])]
end Go.Proofs.XGT
namespace Go.Proofs.XGT
open Go.Vm Go
set_option maxRecDepth 100000
set_option maxHeartbeats 4000000
theorem mh1_eq (t a0 p0 : Int) (x : List Int) : runC gBh Tryz.f42 6 [(3, [2, 4, 6, 9, 10, 11])] [nodeA strTR [] [121] (.os 2 0) (.os 1 0), .os 0 0] (hpTb false t [a0] x [lattr strPerm [p0]]) ah =
  bif decide (1 ≤ 9223372036854775807 ∧ x.length ≤ 9223372036854775807) then 
    bif tenE t [a0] x != 0 then some (AEnd.ret [(AV.d Ty.str []).pr ((I 0).pr (AV.nils.pr (AV.d Ty.unit PUnit.unit))), I 1], [(0, AObj.arr 25 ((i64T).pair ((i64T).slice.pair ((i64T).slice.pair Ty.unit))) 0 false [(t, [a0], x, PUnit.unit)]), (1, AObj.arr 37 (Ty.str.pair ((i64T).pair ((i64T).pair ((i64T).pair (Ty.str.pair (((i64T).pair ((i64T).slice.pair ((i64T).slice.pair Ty.unit))).pair ((i64T).slice.pair Ty.unit))))))) 0 false [([112, 101, 114, 109], 7, 0, 0, [], (0, [], [], PUnit.unit), [p0], PUnit.unit)]), (2, AObj.arr 9 Ty.str 0 false [[120]])])
    else 
      bif !numOk t 0 then some (AEnd.ret [(AV.d Ty.str []).pr ((I 0).pr (AV.nils.pr (AV.d Ty.unit PUnit.unit))), I 5], [(0, AObj.arr 25 ((i64T).pair ((i64T).slice.pair ((i64T).slice.pair Ty.unit))) 0 false [(t, [a0], x, PUnit.unit)]), (1, AObj.arr 37 (Ty.str.pair ((i64T).pair ((i64T).pair ((i64T).pair (Ty.str.pair (((i64T).pair ((i64T).slice.pair ((i64T).slice.pair Ty.unit))).pair ((i64T).slice.pair Ty.unit))))))) 0 true [([112, 101, 114, 109], 7, 0, 0, [], (0, [], [], PUnit.unit), [p0], PUnit.unit)]), (2, AObj.arr 9 Ty.str 0 false [[120]])])
      else 
        bif countE [a0] != 0 then some (AEnd.ret [(AV.d Ty.str []).pr ((I 0).pr (AV.nils.pr (AV.d Ty.unit PUnit.unit))), I (countE [a0])], [(0, AObj.arr 25 ((i64T).pair ((i64T).slice.pair ((i64T).slice.pair Ty.unit))) 0 false [(t, [a0], x, PUnit.unit)]), (1, AObj.arr 37 (Ty.str.pair ((i64T).pair ((i64T).pair ((i64T).pair (Ty.str.pair (((i64T).pair ((i64T).slice.pair ((i64T).slice.pair Ty.unit))).pair ((i64T).slice.pair Ty.unit))))))) 0 true [([112, 101, 114, 109], 7, 0, 0, [], (0, [], [], PUnit.unit), [p0], PUnit.unit)]), (2, AObj.arr 9 Ty.str 0 false [[120]])])
        else 
          bif t == 6 then 
            bif numC 1 0 0 [p0] then (idx [a0] p0).bind fun v6 =>
                bif countE [v6] != 0 then some (AEnd.ret [(AV.d Ty.str []).pr ((I 0).pr (AV.nils.pr (AV.d Ty.unit PUnit.unit))), I (countE [v6])], [(0, AObj.arr 25 ((i64T).pair ((i64T).slice.pair ((i64T).slice.pair Ty.unit))) 0 false [(t, [a0], x, PUnit.unit)]), (1, AObj.arr 37 (Ty.str.pair ((i64T).pair ((i64T).pair ((i64T).pair (Ty.str.pair (((i64T).pair ((i64T).slice.pair ((i64T).slice.pair Ty.unit))).pair ((i64T).slice.pair Ty.unit))))))) 0 true [([112, 101, 114, 109], 7, 0, 0, [], (0, [], [], PUnit.unit), [p0], PUnit.unit)]), (2, AObj.arr 9 Ty.str 0 false [[120]])])
                else some (AEnd.ret [(AV.d Ty.str [121]).pr ((I t).pr ((AV.os 3 0).pr (AV.d Ty.unit PUnit.unit))), I 0], [(0, AObj.arr 25 ((i64T).pair ((i64T).slice.pair ((i64T).slice.pair Ty.unit))) 0 false [(t, [a0], x, PUnit.unit)]), (1, AObj.arr 37 (Ty.str.pair ((i64T).pair ((i64T).pair ((i64T).pair (Ty.str.pair (((i64T).pair ((i64T).slice.pair ((i64T).slice.pair Ty.unit))).pair ((i64T).slice.pair Ty.unit))))))) 0 true [([112, 101, 114, 109], 7, 0, 0, [], (0, [], [], PUnit.unit), [p0], PUnit.unit)]), (2, AObj.arr 9 Ty.str 0 false [[120]]), (3, AObj.arr 3 (i64T) 0 false [v6])])
            else some (AEnd.ret [(AV.d Ty.str []).pr ((I 0).pr (AV.nils.pr (AV.d Ty.unit PUnit.unit))), I 4], [(0, AObj.arr 25 ((i64T).pair ((i64T).slice.pair ((i64T).slice.pair Ty.unit))) 0 false [(t, [a0], x, PUnit.unit)]), (1, AObj.arr 37 (Ty.str.pair ((i64T).pair ((i64T).pair ((i64T).pair (Ty.str.pair (((i64T).pair ((i64T).slice.pair ((i64T).slice.pair Ty.unit))).pair ((i64T).slice.pair Ty.unit))))))) 0 true [([112, 101, 114, 109], 7, 0, 0, [], (0, [], [], PUnit.unit), [p0], PUnit.unit)]), (2, AObj.arr 9 Ty.str 0 false [[120]])])
          else 
            bif numC 1 0 0 [p0] then (idx [a0] p0).bind fun v6 =>
                bif countE [v6] != 0 then some (AEnd.ret [(AV.d Ty.str []).pr ((I 0).pr (AV.nils.pr (AV.d Ty.unit PUnit.unit))), I (countE [v6])], [(0, AObj.arr 25 ((i64T).pair ((i64T).slice.pair ((i64T).slice.pair Ty.unit))) 0 false [(t, [a0], x, PUnit.unit)]), (1, AObj.arr 37 (Ty.str.pair ((i64T).pair ((i64T).pair ((i64T).pair (Ty.str.pair (((i64T).pair ((i64T).slice.pair ((i64T).slice.pair Ty.unit))).pair ((i64T).slice.pair Ty.unit))))))) 0 true [([112, 101, 114, 109], 7, 0, 0, [], (0, [], [], PUnit.unit), [p0], PUnit.unit)]), (2, AObj.arr 9 Ty.str 0 false [[120]])])
                else some (AEnd.ret [(AV.d Ty.str [121]).pr ((I t).pr ((AV.os 3 0).pr (AV.d Ty.unit PUnit.unit))), I 0], [(0, AObj.arr 25 ((i64T).pair ((i64T).slice.pair ((i64T).slice.pair Ty.unit))) 0 false [(t, [a0], x, PUnit.unit)]), (1, AObj.arr 37 (Ty.str.pair ((i64T).pair ((i64T).pair ((i64T).pair (Ty.str.pair (((i64T).pair ((i64T).slice.pair ((i64T).slice.pair Ty.unit))).pair ((i64T).slice.pair Ty.unit))))))) 0 true [([112, 101, 114, 109], 7, 0, 0, [], (0, [], [], PUnit.unit), [p0], PUnit.unit)]), (2, AObj.arr 9 Ty.str 0 false [[120]]), (3, AObj.arr 3 (i64T) 0 false [v6])])
            else some (AEnd.ret [(AV.d Ty.str []).pr ((I 0).pr (AV.nils.pr (AV.d Ty.unit PUnit.unit))), I 4], [(0, AObj.arr 25 ((i64T).pair ((i64T).slice.pair ((i64T).slice.pair Ty.unit))) 0 false [(t, [a0], x, PUnit.unit)]), (1, AObj.arr 37 (Ty.str.pair ((i64T).pair ((i64T).pair ((i64T).pair (Ty.str.pair (((i64T).pair ((i64T).slice.pair ((i64T).slice.pair Ty.unit))).pair ((i64T).slice.pair Ty.unit))))))) 0 true [([112, 101, 114, 109], 7, 0, 0, [], (0, [], [], PUnit.unit), [p0], PUnit.unit)]), (2, AObj.arr 9 Ty.str 0 false [[120]])])
  else none := by kernel_rfl
theorem mh2_eq (t a0 a1 p0 p1 : Int) (x : List Int) : runC gBh Tryz.f42 6 [(3, [2, 4, 6, 9, 10, 11])] [nodeA strTR [] [121] (.os 2 0) (.os 1 0), .os 0 0] (hpTb false t [a0, a1] x [lattr strPerm [p0, p1]]) ah =
  bif decide (2 ≤ 9223372036854775807 ∧ x.length ≤ 9223372036854775807) then 
    bif tenE t [a0, a1] x != 0 then some (AEnd.ret [(AV.d Ty.str []).pr ((I 0).pr (AV.nils.pr (AV.d Ty.unit PUnit.unit))), I 1], [(0, AObj.arr 25 ((i64T).pair ((i64T).slice.pair ((i64T).slice.pair Ty.unit))) 0 false [(t, [a0, a1], x, PUnit.unit)]), (1, AObj.arr 37 (Ty.str.pair ((i64T).pair ((i64T).pair ((i64T).pair (Ty.str.pair (((i64T).pair ((i64T).slice.pair ((i64T).slice.pair Ty.unit))).pair ((i64T).slice.pair Ty.unit))))))) 0 false [([112, 101, 114, 109], 7, 0, 0, [], (0, [], [], PUnit.unit), [p0, p1], PUnit.unit)]), (2, AObj.arr 9 Ty.str 0 false [[120]])])
    else 
      bif !numOk t 0 then some (AEnd.ret [(AV.d Ty.str []).pr ((I 0).pr (AV.nils.pr (AV.d Ty.unit PUnit.unit))), I 5], [(0, AObj.arr 25 ((i64T).pair ((i64T).slice.pair ((i64T).slice.pair Ty.unit))) 0 false [(t, [a0, a1], x, PUnit.unit)]), (1, AObj.arr 37 (Ty.str.pair ((i64T).pair ((i64T).pair ((i64T).pair (Ty.str.pair (((i64T).pair ((i64T).slice.pair ((i64T).slice.pair Ty.unit))).pair ((i64T).slice.pair Ty.unit))))))) 0 true [([112, 101, 114, 109], 7, 0, 0, [], (0, [], [], PUnit.unit), [p0, p1], PUnit.unit)]), (2, AObj.arr 9 Ty.str 0 false [[120]])])
      else 
        bif countE [a0, a1] != 0 then some (AEnd.ret [(AV.d Ty.str []).pr ((I 0).pr (AV.nils.pr (AV.d Ty.unit PUnit.unit))), I (countE [a0, a1])], [(0, AObj.arr 25 ((i64T).pair ((i64T).slice.pair ((i64T).slice.pair Ty.unit))) 0 false [(t, [a0, a1], x, PUnit.unit)]), (1, AObj.arr 37 (Ty.str.pair ((i64T).pair ((i64T).pair ((i64T).pair (Ty.str.pair (((i64T).pair ((i64T).slice.pair ((i64T).slice.pair Ty.unit))).pair ((i64T).slice.pair Ty.unit))))))) 0 true [([112, 101, 114, 109], 7, 0, 0, [], (0, [], [], PUnit.unit), [p0, p1], PUnit.unit)]), (2, AObj.arr 9 Ty.str 0 false [[120]])])
        else 
          bif t == 6 then 
            bif numC 2 0 1 [p0, p1] then (idx [a0, a1] p0).bind fun v6 =>
                bif p1 == p0 then some (AEnd.ret [(AV.d Ty.str []).pr ((I 0).pr (AV.nils.pr (AV.d Ty.unit PUnit.unit))), I 4], [(0, AObj.arr 25 ((i64T).pair ((i64T).slice.pair ((i64T).slice.pair Ty.unit))) 0 false [(t, [a0, a1], x, PUnit.unit)]), (1, AObj.arr 37 (Ty.str.pair ((i64T).pair ((i64T).pair ((i64T).pair (Ty.str.pair (((i64T).pair ((i64T).slice.pair ((i64T).slice.pair Ty.unit))).pair ((i64T).slice.pair Ty.unit))))))) 0 true [([112, 101, 114, 109], 7, 0, 0, [], (0, [], [], PUnit.unit), [p0, p1], PUnit.unit)]), (2, AObj.arr 9 Ty.str 0 false [[120]])])
                else (idx [a0, a1] p1).bind fun v8 =>
                    bif countE [v6, v8] != 0 then some (AEnd.ret [(AV.d Ty.str []).pr ((I 0).pr (AV.nils.pr (AV.d Ty.unit PUnit.unit))), I (countE [v6, v8])], [(0, AObj.arr 25 ((i64T).pair ((i64T).slice.pair ((i64T).slice.pair Ty.unit))) 0 false [(t, [a0, a1], x, PUnit.unit)]), (1, AObj.arr 37 (Ty.str.pair ((i64T).pair ((i64T).pair ((i64T).pair (Ty.str.pair (((i64T).pair ((i64T).slice.pair ((i64T).slice.pair Ty.unit))).pair ((i64T).slice.pair Ty.unit))))))) 0 true [([112, 101, 114, 109], 7, 0, 0, [], (0, [], [], PUnit.unit), [p0, p1], PUnit.unit)]), (2, AObj.arr 9 Ty.str 0 false [[120]])])
                    else some (AEnd.ret [(AV.d Ty.str [121]).pr ((I t).pr ((AV.os 3 0).pr (AV.d Ty.unit PUnit.unit))), I 0], [(0, AObj.arr 25 ((i64T).pair ((i64T).slice.pair ((i64T).slice.pair Ty.unit))) 0 false [(t, [a0, a1], x, PUnit.unit)]), (1, AObj.arr 37 (Ty.str.pair ((i64T).pair ((i64T).pair ((i64T).pair (Ty.str.pair (((i64T).pair ((i64T).slice.pair ((i64T).slice.pair Ty.unit))).pair ((i64T).slice.pair Ty.unit))))))) 0 true [([112, 101, 114, 109], 7, 0, 0, [], (0, [], [], PUnit.unit), [p0, p1], PUnit.unit)]), (2, AObj.arr 9 Ty.str 0 false [[120]]), (3, AObj.arr 3 (i64T) 0 false [v6, v8])])
            else some (AEnd.ret [(AV.d Ty.str []).pr ((I 0).pr (AV.nils.pr (AV.d Ty.unit PUnit.unit))), I 4], [(0, AObj.arr 25 ((i64T).pair ((i64T).slice.pair ((i64T).slice.pair Ty.unit))) 0 false [(t, [a0, a1], x, PUnit.unit)]), (1, AObj.arr 37 (Ty.str.pair ((i64T).pair ((i64T).pair ((i64T).pair (Ty.str.pair (((i64T).pair ((i64T).slice.pair ((i64T).slice.pair Ty.unit))).pair ((i64T).slice.pair Ty.unit))))))) 0 true [([112, 101, 114, 109], 7, 0, 0, [], (0, [], [], PUnit.unit), [p0, p1], PUnit.unit)]), (2, AObj.arr 9 Ty.str 0 false [[120]])])
          else 
            bif numC 2 0 1 [p0, p1] then (idx [a0, a1] p0).bind fun v6 =>
                bif p1 == p0 then some (AEnd.ret [(AV.d Ty.str []).pr ((I 0).pr (AV.nils.pr (AV.d Ty.unit PUnit.unit))), I 4], [(0, AObj.arr 25 ((i64T).pair ((i64T).slice.pair ((i64T).slice.pair Ty.unit))) 0 false [(t, [a0, a1], x, PUnit.unit)]), (1, AObj.arr 37 (Ty.str.pair ((i64T).pair ((i64T).pair ((i64T).pair (Ty.str.pair (((i64T).pair ((i64T).slice.pair ((i64T).slice.pair Ty.unit))).pair ((i64T).slice.pair Ty.unit))))))) 0 true [([112, 101, 114, 109], 7, 0, 0, [], (0, [], [], PUnit.unit), [p0, p1], PUnit.unit)]), (2, AObj.arr 9 Ty.str 0 false [[120]])])
                else (idx [a0, a1] p1).bind fun v8 =>
                    bif countE [v6, v8] != 0 then some (AEnd.ret [(AV.d Ty.str []).pr ((I 0).pr (AV.nils.pr (AV.d Ty.unit PUnit.unit))), I (countE [v6, v8])], [(0, AObj.arr 25 ((i64T).pair ((i64T).slice.pair ((i64T).slice.pair Ty.unit))) 0 false [(t, [a0, a1], x, PUnit.unit)]), (1, AObj.arr 37 (Ty.str.pair ((i64T).pair ((i64T).pair ((i64T).pair (Ty.str.pair (((i64T).pair ((i64T).slice.pair ((i64T).slice.pair Ty.unit))).pair ((i64T).slice.pair Ty.unit))))))) 0 true [([112, 101, 114, 109], 7, 0, 0, [], (0, [], [], PUnit.unit), [p0, p1], PUnit.unit)]), (2, AObj.arr 9 Ty.str 0 false [[120]])])
                    else some (AEnd.ret [(AV.d Ty.str [121]).pr ((I t).pr ((AV.os 3 0).pr (AV.d Ty.unit PUnit.unit))), I 0], [(0, AObj.arr 25 ((i64T).pair ((i64T).slice.pair ((i64T).slice.pair Ty.unit))) 0 false [(t, [a0, a1], x, PUnit.unit)]), (1, AObj.arr 37 (Ty.str.pair ((i64T).pair ((i64T).pair ((i64T).pair (Ty.str.pair (((i64T).pair ((i64T).slice.pair ((i64T).slice.pair Ty.unit))).pair ((i64T).slice.pair Ty.unit))))))) 0 true [([112, 101, 114, 109], 7, 0, 0, [], (0, [], [], PUnit.unit), [p0, p1], PUnit.unit)]), (2, AObj.arr 9 Ty.str 0 false [[120]]), (3, AObj.arr 3 (i64T) 0 false [v6, v8])])
            else some (AEnd.ret [(AV.d Ty.str []).pr ((I 0).pr (AV.nils.pr (AV.d Ty.unit PUnit.unit))), I 4], [(0, AObj.arr 25 ((i64T).pair ((i64T).slice.pair ((i64T).slice.pair Ty.unit))) 0 false [(t, [a0, a1], x, PUnit.unit)]), (1, AObj.arr 37 (Ty.str.pair ((i64T).pair ((i64T).pair ((i64T).pair (Ty.str.pair (((i64T).pair ((i64T).slice.pair ((i64T).slice.pair Ty.unit))).pair ((i64T).slice.pair Ty.unit))))))) 0 true [([112, 101, 114, 109], 7, 0, 0, [], (0, [], [], PUnit.unit), [p0, p1], PUnit.unit)]), (2, AObj.arr 9 Ty.str 0 false [[120]])])
  else none := by kernel_rfl
theorem mh3_eq (t a0 a1 a2 p0 p1 p2 : Int) (x : List Int) : runC gBh Tryz.f42 6 [(3, [2, 4, 6, 9, 10, 11])] [nodeA strTR [] [121] (.os 2 0) (.os 1 0), .os 0 0] (hpTb false t [a0, a1, a2] x [lattr strPerm [p0, p1, p2]]) ah =
  bif decide (3 ≤ 9223372036854775807 ∧ x.length ≤ 9223372036854775807) then 
    bif tenE t [a0, a1, a2] x != 0 then some (AEnd.ret [(AV.d Ty.str []).pr ((I 0).pr (AV.nils.pr (AV.d Ty.unit PUnit.unit))), I 1], [(0, AObj.arr 25 ((i64T).pair ((i64T).slice.pair ((i64T).slice.pair Ty.unit))) 0 false [(t, [a0, a1, a2], x, PUnit.unit)]), (1, AObj.arr 37 (Ty.str.pair ((i64T).pair ((i64T).pair ((i64T).pair (Ty.str.pair (((i64T).pair ((i64T).slice.pair ((i64T).slice.pair Ty.unit))).pair ((i64T).slice.pair Ty.unit))))))) 0 false [([112, 101, 114, 109], 7, 0, 0, [], (0, [], [], PUnit.unit), [p0, p1, p2], PUnit.unit)]), (2, AObj.arr 9 Ty.str 0 false [[120]])])
    else 
      bif !numOk t 0 then some (AEnd.ret [(AV.d Ty.str []).pr ((I 0).pr (AV.nils.pr (AV.d Ty.unit PUnit.unit))), I 5], [(0, AObj.arr 25 ((i64T).pair ((i64T).slice.pair ((i64T).slice.pair Ty.unit))) 0 false [(t, [a0, a1, a2], x, PUnit.unit)]), (1, AObj.arr 37 (Ty.str.pair ((i64T).pair ((i64T).pair ((i64T).pair (Ty.str.pair (((i64T).pair ((i64T).slice.pair ((i64T).slice.pair Ty.unit))).pair ((i64T).slice.pair Ty.unit))))))) 0 true [([112, 101, 114, 109], 7, 0, 0, [], (0, [], [], PUnit.unit), [p0, p1, p2], PUnit.unit)]), (2, AObj.arr 9 Ty.str 0 false [[120]])])
      else 
        bif countE [a0, a1, a2] != 0 then some (AEnd.ret [(AV.d Ty.str []).pr ((I 0).pr (AV.nils.pr (AV.d Ty.unit PUnit.unit))), I (countE [a0, a1, a2])], [(0, AObj.arr 25 ((i64T).pair ((i64T).slice.pair ((i64T).slice.pair Ty.unit))) 0 false [(t, [a0, a1, a2], x, PUnit.unit)]), (1, AObj.arr 37 (Ty.str.pair ((i64T).pair ((i64T).pair ((i64T).pair (Ty.str.pair (((i64T).pair ((i64T).slice.pair ((i64T).slice.pair Ty.unit))).pair ((i64T).slice.pair Ty.unit))))))) 0 true [([112, 101, 114, 109], 7, 0, 0, [], (0, [], [], PUnit.unit), [p0, p1, p2], PUnit.unit)]), (2, AObj.arr 9 Ty.str 0 false [[120]])])
        else 
          bif t == 6 then 
            bif numC 3 0 2 [p0, p1, p2] then (idx [a0, a1, a2] p0).bind fun v6 =>
                bif p1 == p0 then some (AEnd.ret [(AV.d Ty.str []).pr ((I 0).pr (AV.nils.pr (AV.d Ty.unit PUnit.unit))), I 4], [(0, AObj.arr 25 ((i64T).pair ((i64T).slice.pair ((i64T).slice.pair Ty.unit))) 0 false [(t, [a0, a1, a2], x, PUnit.unit)]), (1, AObj.arr 37 (Ty.str.pair ((i64T).pair ((i64T).pair ((i64T).pair (Ty.str.pair (((i64T).pair ((i64T).slice.pair ((i64T).slice.pair Ty.unit))).pair ((i64T).slice.pair Ty.unit))))))) 0 true [([112, 101, 114, 109], 7, 0, 0, [], (0, [], [], PUnit.unit), [p0, p1, p2], PUnit.unit)]), (2, AObj.arr 9 Ty.str 0 false [[120]])])
                else (idx [a0, a1, a2] p1).bind fun v8 =>
                    bif p2 == p0 then some (AEnd.ret [(AV.d Ty.str []).pr ((I 0).pr (AV.nils.pr (AV.d Ty.unit PUnit.unit))), I 4], [(0, AObj.arr 25 ((i64T).pair ((i64T).slice.pair ((i64T).slice.pair Ty.unit))) 0 false [(t, [a0, a1, a2], x, PUnit.unit)]), (1, AObj.arr 37 (Ty.str.pair ((i64T).pair ((i64T).pair ((i64T).pair (Ty.str.pair (((i64T).pair ((i64T).slice.pair ((i64T).slice.pair Ty.unit))).pair ((i64T).slice.pair Ty.unit))))))) 0 true [([112, 101, 114, 109], 7, 0, 0, [], (0, [], [], PUnit.unit), [p0, p1, p2], PUnit.unit)]), (2, AObj.arr 9 Ty.str 0 false [[120]])])
                    else 
                      bif p2 == p1 then some (AEnd.ret [(AV.d Ty.str []).pr ((I 0).pr (AV.nils.pr (AV.d Ty.unit PUnit.unit))), I 4], [(0, AObj.arr 25 ((i64T).pair ((i64T).slice.pair ((i64T).slice.pair Ty.unit))) 0 false [(t, [a0, a1, a2], x, PUnit.unit)]), (1, AObj.arr 37 (Ty.str.pair ((i64T).pair ((i64T).pair ((i64T).pair (Ty.str.pair (((i64T).pair ((i64T).slice.pair ((i64T).slice.pair Ty.unit))).pair ((i64T).slice.pair Ty.unit))))))) 0 true [([112, 101, 114, 109], 7, 0, 0, [], (0, [], [], PUnit.unit), [p0, p1, p2], PUnit.unit)]), (2, AObj.arr 9 Ty.str 0 false [[120]])])
                      else (idx [a0, a1, a2] p2).bind fun v11 =>
                          bif countE [v6, v8, v11] != 0 then some (AEnd.ret [(AV.d Ty.str []).pr ((I 0).pr (AV.nils.pr (AV.d Ty.unit PUnit.unit))), I (countE [v6, v8, v11])], [(0, AObj.arr 25 ((i64T).pair ((i64T).slice.pair ((i64T).slice.pair Ty.unit))) 0 false [(t, [a0, a1, a2], x, PUnit.unit)]), (1, AObj.arr 37 (Ty.str.pair ((i64T).pair ((i64T).pair ((i64T).pair (Ty.str.pair (((i64T).pair ((i64T).slice.pair ((i64T).slice.pair Ty.unit))).pair ((i64T).slice.pair Ty.unit))))))) 0 true [([112, 101, 114, 109], 7, 0, 0, [], (0, [], [], PUnit.unit), [p0, p1, p2], PUnit.unit)]), (2, AObj.arr 9 Ty.str 0 false [[120]])])
                          else some (AEnd.ret [(AV.d Ty.str [121]).pr ((I t).pr ((AV.os 3 0).pr (AV.d Ty.unit PUnit.unit))), I 0], [(0, AObj.arr 25 ((i64T).pair ((i64T).slice.pair ((i64T).slice.pair Ty.unit))) 0 false [(t, [a0, a1, a2], x, PUnit.unit)]), (1, AObj.arr 37 (Ty.str.pair ((i64T).pair ((i64T).pair ((i64T).pair (Ty.str.pair (((i64T).pair ((i64T).slice.pair ((i64T).slice.pair Ty.unit))).pair ((i64T).slice.pair Ty.unit))))))) 0 true [([112, 101, 114, 109], 7, 0, 0, [], (0, [], [], PUnit.unit), [p0, p1, p2], PUnit.unit)]), (2, AObj.arr 9 Ty.str 0 false [[120]]), (3, AObj.arr 3 (i64T) 0 false [v6, v8, v11])])
            else some (AEnd.ret [(AV.d Ty.str []).pr ((I 0).pr (AV.nils.pr (AV.d Ty.unit PUnit.unit))), I 4], [(0, AObj.arr 25 ((i64T).pair ((i64T).slice.pair ((i64T).slice.pair Ty.unit))) 0 false [(t, [a0, a1, a2], x, PUnit.unit)]), (1, AObj.arr 37 (Ty.str.pair ((i64T).pair ((i64T).pair ((i64T).pair (Ty.str.pair (((i64T).pair ((i64T).slice.pair ((i64T).slice.pair Ty.unit))).pair ((i64T).slice.pair Ty.unit))))))) 0 true [([112, 101, 114, 109], 7, 0, 0, [], (0, [], [], PUnit.unit), [p0, p1, p2], PUnit.unit)]), (2, AObj.arr 9 Ty.str 0 false [[120]])])
          else 
            bif numC 3 0 2 [p0, p1, p2] then (idx [a0, a1, a2] p0).bind fun v6 =>
                bif p1 == p0 then some (AEnd.ret [(AV.d Ty.str []).pr ((I 0).pr (AV.nils.pr (AV.d Ty.unit PUnit.unit))), I 4], [(0, AObj.arr 25 ((i64T).pair ((i64T).slice.pair ((i64T).slice.pair Ty.unit))) 0 false [(t, [a0, a1, a2], x, PUnit.unit)]), (1, AObj.arr 37 (Ty.str.pair ((i64T).pair ((i64T).pair ((i64T).pair (Ty.str.pair (((i64T).pair ((i64T).slice.pair ((i64T).slice.pair Ty.unit))).pair ((i64T).slice.pair Ty.unit))))))) 0 true [([112, 101, 114, 109], 7, 0, 0, [], (0, [], [], PUnit.unit), [p0, p1, p2], PUnit.unit)]), (2, AObj.arr 9 Ty.str 0 false [[120]])])
                else (idx [a0, a1, a2] p1).bind fun v8 =>
                    bif p2 == p0 then some (AEnd.ret [(AV.d Ty.str []).pr ((I 0).pr (AV.nils.pr (AV.d Ty.unit PUnit.unit))), I 4], [(0, AObj.arr 25 ((i64T).pair ((i64T).slice.pair ((i64T).slice.pair Ty.unit))) 0 false [(t, [a0, a1, a2], x, PUnit.unit)]), (1, AObj.arr 37 (Ty.str.pair ((i64T).pair ((i64T).pair ((i64T).pair (Ty.str.pair (((i64T).pair ((i64T).slice.pair ((i64T).slice.pair Ty.unit))).pair ((i64T).slice.pair Ty.unit))))))) 0 true [([112, 101, 114, 109], 7, 0, 0, [], (0, [], [], PUnit.unit), [p0, p1, p2], PUnit.unit)]), (2, AObj.arr 9 Ty.str 0 false [[120]])])
                    else 
                      bif p2 == p1 then some (AEnd.ret [(AV.d Ty.str []).pr ((I 0).pr (AV.nils.pr (AV.d Ty.unit PUnit.unit))), I 4], [(0, AObj.arr 25 ((i64T).pair ((i64T).slice.pair ((i64T).slice.pair Ty.unit))) 0 false [(t, [a0, a1, a2], x, PUnit.unit)]), (1, AObj.arr 37 (Ty.str.pair ((i64T).pair ((i64T).pair ((i64T).pair (Ty.str.pair (((i64T).pair ((i64T).slice.pair ((i64T).slice.pair Ty.unit))).pair ((i64T).slice.pair Ty.unit))))))) 0 true [([112, 101, 114, 109], 7, 0, 0, [], (0, [], [], PUnit.unit), [p0, p1, p2], PUnit.unit)]), (2, AObj.arr 9 Ty.str 0 false [[120]])])
                      else (idx [a0, a1, a2] p2).bind fun v11 =>
                          bif countE [v6, v8, v11] != 0 then some (AEnd.ret [(AV.d Ty.str []).pr ((I 0).pr (AV.nils.pr (AV.d Ty.unit PUnit.unit))), I (countE [v6, v8, v11])], [(0, AObj.arr 25 ((i64T).pair ((i64T).slice.pair ((i64T).slice.pair Ty.unit))) 0 false [(t, [a0, a1, a2], x, PUnit.unit)]), (1, AObj.arr 37 (Ty.str.pair ((i64T).pair ((i64T).pair ((i64T).pair (Ty.str.pair (((i64T).pair ((i64T).slice.pair ((i64T).slice.pair Ty.unit))).pair ((i64T).slice.pair Ty.unit))))))) 0 true [([112, 101, 114, 109], 7, 0, 0, [], (0, [], [], PUnit.unit), [p0, p1, p2], PUnit.unit)]), (2, AObj.arr 9 Ty.str 0 false [[120]])])
                          else some (AEnd.ret [(AV.d Ty.str [121]).pr ((I t).pr ((AV.os 3 0).pr (AV.d Ty.unit PUnit.unit))), I 0], [(0, AObj.arr 25 ((i64T).pair ((i64T).slice.pair ((i64T).slice.pair Ty.unit))) 0 false [(t, [a0, a1, a2], x, PUnit.unit)]), (1, AObj.arr 37 (Ty.str.pair ((i64T).pair ((i64T).pair ((i64T).pair (Ty.str.pair (((i64T).pair ((i64T).slice.pair ((i64T).slice.pair Ty.unit))).pair ((i64T).slice.pair Ty.unit))))))) 0 true [([112, 101, 114, 109], 7, 0, 0, [], (0, [], [], PUnit.unit), [p0, p1, p2], PUnit.unit)]), (2, AObj.arr 9 Ty.str 0 false [[120]]), (3, AObj.arr 3 (i64T) 0 false [v6, v8, v11])])
            else some (AEnd.ret [(AV.d Ty.str []).pr ((I 0).pr (AV.nils.pr (AV.d Ty.unit PUnit.unit))), I 4], [(0, AObj.arr 25 ((i64T).pair ((i64T).slice.pair ((i64T).slice.pair Ty.unit))) 0 false [(t, [a0, a1, a2], x, PUnit.unit)]), (1, AObj.arr 37 (Ty.str.pair ((i64T).pair ((i64T).pair ((i64T).pair (Ty.str.pair (((i64T).pair ((i64T).slice.pair ((i64T).slice.pair Ty.unit))).pair ((i64T).slice.pair Ty.unit))))))) 0 true [([112, 101, 114, 109], 7, 0, 0, [], (0, [], [], PUnit.unit), [p0, p1, p2], PUnit.unit)]), (2, AObj.arr 9 Ty.str 0 false [[120]])])
  else none := by kernel_rfl
theorem mh4_eq (t a0 a1 a2 a3 p0 p1 p2 p3 : Int) (x : List Int) : runC gBh Tryz.f42 6 [(3, [2, 4, 6, 9, 10, 11])] [nodeA strTR [] [121] (.os 2 0) (.os 1 0), .os 0 0] (hpTb false t [a0, a1, a2, a3] x [lattr strPerm [p0, p1, p2, p3]]) ah =
  bif decide (4 ≤ 9223372036854775807 ∧ x.length ≤ 9223372036854775807) then 
    bif tenE t [a0, a1, a2, a3] x != 0 then some (AEnd.ret [(AV.d Ty.str []).pr ((I 0).pr (AV.nils.pr (AV.d Ty.unit PUnit.unit))), I 1], [(0, AObj.arr 25 ((i64T).pair ((i64T).slice.pair ((i64T).slice.pair Ty.unit))) 0 false [(t, [a0, a1, a2, a3], x, PUnit.unit)]), (1, AObj.arr 37 (Ty.str.pair ((i64T).pair ((i64T).pair ((i64T).pair (Ty.str.pair (((i64T).pair ((i64T).slice.pair ((i64T).slice.pair Ty.unit))).pair ((i64T).slice.pair Ty.unit))))))) 0 false [([112, 101, 114, 109], 7, 0, 0, [], (0, [], [], PUnit.unit), [p0, p1, p2, p3], PUnit.unit)]), (2, AObj.arr 9 Ty.str 0 false [[120]])])
    else 
      bif !numOk t 0 then some (AEnd.ret [(AV.d Ty.str []).pr ((I 0).pr (AV.nils.pr (AV.d Ty.unit PUnit.unit))), I 5], [(0, AObj.arr 25 ((i64T).pair ((i64T).slice.pair ((i64T).slice.pair Ty.unit))) 0 false [(t, [a0, a1, a2, a3], x, PUnit.unit)]), (1, AObj.arr 37 (Ty.str.pair ((i64T).pair ((i64T).pair ((i64T).pair (Ty.str.pair (((i64T).pair ((i64T).slice.pair ((i64T).slice.pair Ty.unit))).pair ((i64T).slice.pair Ty.unit))))))) 0 true [([112, 101, 114, 109], 7, 0, 0, [], (0, [], [], PUnit.unit), [p0, p1, p2, p3], PUnit.unit)]), (2, AObj.arr 9 Ty.str 0 false [[120]])])
      else 
        bif countE [a0, a1, a2, a3] != 0 then some (AEnd.ret [(AV.d Ty.str []).pr ((I 0).pr (AV.nils.pr (AV.d Ty.unit PUnit.unit))), I (countE [a0, a1, a2, a3])], [(0, AObj.arr 25 ((i64T).pair ((i64T).slice.pair ((i64T).slice.pair Ty.unit))) 0 false [(t, [a0, a1, a2, a3], x, PUnit.unit)]), (1, AObj.arr 37 (Ty.str.pair ((i64T).pair ((i64T).pair ((i64T).pair (Ty.str.pair (((i64T).pair ((i64T).slice.pair ((i64T).slice.pair Ty.unit))).pair ((i64T).slice.pair Ty.unit))))))) 0 true [([112, 101, 114, 109], 7, 0, 0, [], (0, [], [], PUnit.unit), [p0, p1, p2, p3], PUnit.unit)]), (2, AObj.arr 9 Ty.str 0 false [[120]])])
        else 
          bif t == 6 then 
            bif numC 4 0 3 [p0, p1, p2, p3] then (idx [a0, a1, a2, a3] p0).bind fun v6 =>
                bif p1 == p0 then some (AEnd.ret [(AV.d Ty.str []).pr ((I 0).pr (AV.nils.pr (AV.d Ty.unit PUnit.unit))), I 4], [(0, AObj.arr 25 ((i64T).pair ((i64T).slice.pair ((i64T).slice.pair Ty.unit))) 0 false [(t, [a0, a1, a2, a3], x, PUnit.unit)]), (1, AObj.arr 37 (Ty.str.pair ((i64T).pair ((i64T).pair ((i64T).pair (Ty.str.pair (((i64T).pair ((i64T).slice.pair ((i64T).slice.pair Ty.unit))).pair ((i64T).slice.pair Ty.unit))))))) 0 true [([112, 101, 114, 109], 7, 0, 0, [], (0, [], [], PUnit.unit), [p0, p1, p2, p3], PUnit.unit)]), (2, AObj.arr 9 Ty.str 0 false [[120]])])
                else (idx [a0, a1, a2, a3] p1).bind fun v8 =>
                    bif p2 == p0 then some (AEnd.ret [(AV.d Ty.str []).pr ((I 0).pr (AV.nils.pr (AV.d Ty.unit PUnit.unit))), I 4], [(0, AObj.arr 25 ((i64T).pair ((i64T).slice.pair ((i64T).slice.pair Ty.unit))) 0 false [(t, [a0, a1, a2, a3], x, PUnit.unit)]), (1, AObj.arr 37 (Ty.str.pair ((i64T).pair ((i64T).pair ((i64T).pair (Ty.str.pair (((i64T).pair ((i64T).slice.pair ((i64T).slice.pair Ty.unit))).pair ((i64T).slice.pair Ty.unit))))))) 0 true [([112, 101, 114, 109], 7, 0, 0, [], (0, [], [], PUnit.unit), [p0, p1, p2, p3], PUnit.unit)]), (2, AObj.arr 9 Ty.str 0 false [[120]])])
                    else 
                      bif p2 == p1 then some (AEnd.ret [(AV.d Ty.str []).pr ((I 0).pr (AV.nils.pr (AV.d Ty.unit PUnit.unit))), I 4], [(0, AObj.arr 25 ((i64T).pair ((i64T).slice.pair ((i64T).slice.pair Ty.unit))) 0 false [(t, [a0, a1, a2, a3], x, PUnit.unit)]), (1, AObj.arr 37 (Ty.str.pair ((i64T).pair ((i64T).pair ((i64T).pair (Ty.str.pair (((i64T).pair ((i64T).slice.pair ((i64T).slice.pair Ty.unit))).pair ((i64T).slice.pair Ty.unit))))))) 0 true [([112, 101, 114, 109], 7, 0, 0, [], (0, [], [], PUnit.unit), [p0, p1, p2, p3], PUnit.unit)]), (2, AObj.arr 9 Ty.str 0 false [[120]])])
                      else (idx [a0, a1, a2, a3] p2).bind fun v11 =>
                          bif p3 == p0 then some (AEnd.ret [(AV.d Ty.str []).pr ((I 0).pr (AV.nils.pr (AV.d Ty.unit PUnit.unit))), I 4], [(0, AObj.arr 25 ((i64T).pair ((i64T).slice.pair ((i64T).slice.pair Ty.unit))) 0 false [(t, [a0, a1, a2, a3], x, PUnit.unit)]), (1, AObj.arr 37 (Ty.str.pair ((i64T).pair ((i64T).pair ((i64T).pair (Ty.str.pair (((i64T).pair ((i64T).slice.pair ((i64T).slice.pair Ty.unit))).pair ((i64T).slice.pair Ty.unit))))))) 0 true [([112, 101, 114, 109], 7, 0, 0, [], (0, [], [], PUnit.unit), [p0, p1, p2, p3], PUnit.unit)]), (2, AObj.arr 9 Ty.str 0 false [[120]])])
                          else 
                            bif p3 == p1 then some (AEnd.ret [(AV.d Ty.str []).pr ((I 0).pr (AV.nils.pr (AV.d Ty.unit PUnit.unit))), I 4], [(0, AObj.arr 25 ((i64T).pair ((i64T).slice.pair ((i64T).slice.pair Ty.unit))) 0 false [(t, [a0, a1, a2, a3], x, PUnit.unit)]), (1, AObj.arr 37 (Ty.str.pair ((i64T).pair ((i64T).pair ((i64T).pair (Ty.str.pair (((i64T).pair ((i64T).slice.pair ((i64T).slice.pair Ty.unit))).pair ((i64T).slice.pair Ty.unit))))))) 0 true [([112, 101, 114, 109], 7, 0, 0, [], (0, [], [], PUnit.unit), [p0, p1, p2, p3], PUnit.unit)]), (2, AObj.arr 9 Ty.str 0 false [[120]])])
                            else 
                              bif p3 == p2 then some (AEnd.ret [(AV.d Ty.str []).pr ((I 0).pr (AV.nils.pr (AV.d Ty.unit PUnit.unit))), I 4], [(0, AObj.arr 25 ((i64T).pair ((i64T).slice.pair ((i64T).slice.pair Ty.unit))) 0 false [(t, [a0, a1, a2, a3], x, PUnit.unit)]), (1, AObj.arr 37 (Ty.str.pair ((i64T).pair ((i64T).pair ((i64T).pair (Ty.str.pair (((i64T).pair ((i64T).slice.pair ((i64T).slice.pair Ty.unit))).pair ((i64T).slice.pair Ty.unit))))))) 0 true [([112, 101, 114, 109], 7, 0, 0, [], (0, [], [], PUnit.unit), [p0, p1, p2, p3], PUnit.unit)]), (2, AObj.arr 9 Ty.str 0 false [[120]])])
                              else (idx [a0, a1, a2, a3] p3).bind fun v15 =>
                                  bif countE [v6, v8, v11, v15] != 0 then some (AEnd.ret [(AV.d Ty.str []).pr ((I 0).pr (AV.nils.pr (AV.d Ty.unit PUnit.unit))), I (countE [v6, v8, v11, v15])], [(0, AObj.arr 25 ((i64T).pair ((i64T).slice.pair ((i64T).slice.pair Ty.unit))) 0 false [(t, [a0, a1, a2, a3], x, PUnit.unit)]), (1, AObj.arr 37 (Ty.str.pair ((i64T).pair ((i64T).pair ((i64T).pair (Ty.str.pair (((i64T).pair ((i64T).slice.pair ((i64T).slice.pair Ty.unit))).pair ((i64T).slice.pair Ty.unit))))))) 0 true [([112, 101, 114, 109], 7, 0, 0, [], (0, [], [], PUnit.unit), [p0, p1, p2, p3], PUnit.unit)]), (2, AObj.arr 9 Ty.str 0 false [[120]])])
                                  else some (AEnd.ret [(AV.d Ty.str [121]).pr ((I t).pr ((AV.os 3 0).pr (AV.d Ty.unit PUnit.unit))), I 0], [(0, AObj.arr 25 ((i64T).pair ((i64T).slice.pair ((i64T).slice.pair Ty.unit))) 0 false [(t, [a0, a1, a2, a3], x, PUnit.unit)]), (1, AObj.arr 37 (Ty.str.pair ((i64T).pair ((i64T).pair ((i64T).pair (Ty.str.pair (((i64T).pair ((i64T).slice.pair ((i64T).slice.pair Ty.unit))).pair ((i64T).slice.pair Ty.unit))))))) 0 true [([112, 101, 114, 109], 7, 0, 0, [], (0, [], [], PUnit.unit), [p0, p1, p2, p3], PUnit.unit)]), (2, AObj.arr 9 Ty.str 0 false [[120]]), (3, AObj.arr 3 (i64T) 0 false [v6, v8, v11, v15])])
            else some (AEnd.ret [(AV.d Ty.str []).pr ((I 0).pr (AV.nils.pr (AV.d Ty.unit PUnit.unit))), I 4], [(0, AObj.arr 25 ((i64T).pair ((i64T).slice.pair ((i64T).slice.pair Ty.unit))) 0 false [(t, [a0, a1, a2, a3], x, PUnit.unit)]), (1, AObj.arr 37 (Ty.str.pair ((i64T).pair ((i64T).pair ((i64T).pair (Ty.str.pair (((i64T).pair ((i64T).slice.pair ((i64T).slice.pair Ty.unit))).pair ((i64T).slice.pair Ty.unit))))))) 0 true [([112, 101, 114, 109], 7, 0, 0, [], (0, [], [], PUnit.unit), [p0, p1, p2, p3], PUnit.unit)]), (2, AObj.arr 9 Ty.str 0 false [[120]])])
          else 
            bif numC 4 0 3 [p0, p1, p2, p3] then (idx [a0, a1, a2, a3] p0).bind fun v6 =>
                bif p1 == p0 then some (AEnd.ret [(AV.d Ty.str []).pr ((I 0).pr (AV.nils.pr (AV.d Ty.unit PUnit.unit))), I 4], [(0, AObj.arr 25 ((i64T).pair ((i64T).slice.pair ((i64T).slice.pair Ty.unit))) 0 false [(t, [a0, a1, a2, a3], x, PUnit.unit)]), (1, AObj.arr 37 (Ty.str.pair ((i64T).pair ((i64T).pair ((i64T).pair (Ty.str.pair (((i64T).pair ((i64T).slice.pair ((i64T).slice.pair Ty.unit))).pair ((i64T).slice.pair Ty.unit))))))) 0 true [([112, 101, 114, 109], 7, 0, 0, [], (0, [], [], PUnit.unit), [p0, p1, p2, p3], PUnit.unit)]), (2, AObj.arr 9 Ty.str 0 false [[120]])])
                else (idx [a0, a1, a2, a3] p1).bind fun v8 =>
                    bif p2 == p0 then some (AEnd.ret [(AV.d Ty.str []).pr ((I 0).pr (AV.nils.pr (AV.d Ty.unit PUnit.unit))), I 4], [(0, AObj.arr 25 ((i64T).pair ((i64T).slice.pair ((i64T).slice.pair Ty.unit))) 0 false [(t, [a0, a1, a2, a3], x, PUnit.unit)]), (1, AObj.arr 37 (Ty.str.pair ((i64T).pair ((i64T).pair ((i64T).pair (Ty.str.pair (((i64T).pair ((i64T).slice.pair ((i64T).slice.pair Ty.unit))).pair ((i64T).slice.pair Ty.unit))))))) 0 true [([112, 101, 114, 109], 7, 0, 0, [], (0, [], [], PUnit.unit), [p0, p1, p2, p3], PUnit.unit)]), (2, AObj.arr 9 Ty.str 0 false [[120]])])
                    else 
                      bif p2 == p1 then some (AEnd.ret [(AV.d Ty.str []).pr ((I 0).pr (AV.nils.pr (AV.d Ty.unit PUnit.unit))), I 4], [(0, AObj.arr 25 ((i64T).pair ((i64T).slice.pair ((i64T).slice.pair Ty.unit))) 0 false [(t, [a0, a1, a2, a3], x, PUnit.unit)]), (1, AObj.arr 37 (Ty.str.pair ((i64T).pair ((i64T).pair ((i64T).pair (Ty.str.pair (((i64T).pair ((i64T).slice.pair ((i64T).slice.pair Ty.unit))).pair ((i64T).slice.pair Ty.unit))))))) 0 true [([112, 101, 114, 109], 7, 0, 0, [], (0, [], [], PUnit.unit), [p0, p1, p2, p3], PUnit.unit)]), (2, AObj.arr 9 Ty.str 0 false [[120]])])
                      else (idx [a0, a1, a2, a3] p2).bind fun v11 =>
                          bif p3 == p0 then some (AEnd.ret [(AV.d Ty.str []).pr ((I 0).pr (AV.nils.pr (AV.d Ty.unit PUnit.unit))), I 4], [(0, AObj.arr 25 ((i64T).pair ((i64T).slice.pair ((i64T).slice.pair Ty.unit))) 0 false [(t, [a0, a1, a2, a3], x, PUnit.unit)]), (1, AObj.arr 37 (Ty.str.pair ((i64T).pair ((i64T).pair ((i64T).pair (Ty.str.pair (((i64T).pair ((i64T).slice.pair ((i64T).slice.pair Ty.unit))).pair ((i64T).slice.pair Ty.unit))))))) 0 true [([112, 101, 114, 109], 7, 0, 0, [], (0, [], [], PUnit.unit), [p0, p1, p2, p3], PUnit.unit)]), (2, AObj.arr 9 Ty.str 0 false [[120]])])
                          else 
                            bif p3 == p1 then some (AEnd.ret [(AV.d Ty.str []).pr ((I 0).pr (AV.nils.pr (AV.d Ty.unit PUnit.unit))), I 4], [(0, AObj.arr 25 ((i64T).pair ((i64T).slice.pair ((i64T).slice.pair Ty.unit))) 0 false [(t, [a0, a1, a2, a3], x, PUnit.unit)]), (1, AObj.arr 37 (Ty.str.pair ((i64T).pair ((i64T).pair ((i64T).pair (Ty.str.pair (((i64T).pair ((i64T).slice.pair ((i64T).slice.pair Ty.unit))).pair ((i64T).slice.pair Ty.unit))))))) 0 true [([112, 101, 114, 109], 7, 0, 0, [], (0, [], [], PUnit.unit), [p0, p1, p2, p3], PUnit.unit)]), (2, AObj.arr 9 Ty.str 0 false [[120]])])
                            else 
                              bif p3 == p2 then some (AEnd.ret [(AV.d Ty.str []).pr ((I 0).pr (AV.nils.pr (AV.d Ty.unit PUnit.unit))), I 4], [(0, AObj.arr 25 ((i64T).pair ((i64T).slice.pair ((i64T).slice.pair Ty.unit))) 0 false [(t, [a0, a1, a2, a3], x, PUnit.unit)]), (1, AObj.arr 37 (Ty.str.pair ((i64T).pair ((i64T).pair ((i64T).pair (Ty.str.pair (((i64T).pair ((i64T).slice.pair ((i64T).slice.pair Ty.unit))).pair ((i64T).slice.pair Ty.unit))))))) 0 true [([112, 101, 114, 109], 7, 0, 0, [], (0, [], [], PUnit.unit), [p0, p1, p2, p3], PUnit.unit)]), (2, AObj.arr 9 Ty.str 0 false [[120]])])
                              else (idx [a0, a1, a2, a3] p3).bind fun v15 =>
                                  bif countE [v6, v8, v11, v15] != 0 then some (AEnd.ret [(AV.d Ty.str []).pr ((I 0).pr (AV.nils.pr (AV.d Ty.unit PUnit.unit))), I (countE [v6, v8, v11, v15])], [(0, AObj.arr 25 ((i64T).pair ((i64T).slice.pair ((i64T).slice.pair Ty.unit))) 0 false [(t, [a0, a1, a2, a3], x, PUnit.unit)]), (1, AObj.arr 37 (Ty.str.pair ((i64T).pair ((i64T).pair ((i64T).pair (Ty.str.pair (((i64T).pair ((i64T).slice.pair ((i64T).slice.pair Ty.unit))).pair ((i64T).slice.pair Ty.unit))))))) 0 true [([112, 101, 114, 109], 7, 0, 0, [], (0, [], [], PUnit.unit), [p0, p1, p2, p3], PUnit.unit)]), (2, AObj.arr 9 Ty.str 0 false [[120]])])
                                  else some (AEnd.ret [(AV.d Ty.str [121]).pr ((I t).pr ((AV.os 3 0).pr (AV.d Ty.unit PUnit.unit))), I 0], [(0, AObj.arr 25 ((i64T).pair ((i64T).slice.pair ((i64T).slice.pair Ty.unit))) 0 false [(t, [a0, a1, a2, a3], x, PUnit.unit)]), (1, AObj.arr 37 (Ty.str.pair ((i64T).pair ((i64T).pair ((i64T).pair (Ty.str.pair (((i64T).pair ((i64T).slice.pair ((i64T).slice.pair Ty.unit))).pair ((i64T).slice.pair Ty.unit))))))) 0 true [([112, 101, 114, 109], 7, 0, 0, [], (0, [], [], PUnit.unit), [p0, p1, p2, p3], PUnit.unit)]), (2, AObj.arr 9 Ty.str 0 false [[120]]), (3, AObj.arr 3 (i64T) 0 false [v6, v8, v11, v15])])
            else some (AEnd.ret [(AV.d Ty.str []).pr ((I 0).pr (AV.nils.pr (AV.d Ty.unit PUnit.unit))), I 4], [(0, AObj.arr 25 ((i64T).pair ((i64T).slice.pair ((i64T).slice.pair Ty.unit))) 0 false [(t, [a0, a1, a2, a3], x, PUnit.unit)]), (1, AObj.arr 37 (Ty.str.pair ((i64T).pair ((i64T).pair ((i64T).pair (Ty.str.pair (((i64T).pair ((i64T).slice.pair ((i64T).slice.pair Ty.unit))).pair ((i64T).slice.pair Ty.unit))))))) 0 true [([112, 101, 114, 109], 7, 0, 0, [], (0, [], [], PUnit.unit), [p0, p1, p2, p3], PUnit.unit)]), (2, AObj.arr 9 Ty.str 0 false [[120]])])
  else none := by kernel_rfl
theorem mh5_eq (t a0 a1 a2 a3 a4 p0 p1 p2 p3 p4 : Int) (x : List Int) : runC gBh Tryz.f42 6 [(3, [2, 4, 6, 9, 10, 11])] [nodeA strTR [] [121] (.os 2 0) (.os 1 0), .os 0 0] (hpTb false t [a0, a1, a2, a3, a4] x [lattr strPerm [p0, p1, p2, p3, p4]]) ah =
  bif decide (5 ≤ 9223372036854775807 ∧ x.length ≤ 9223372036854775807) then 
    bif tenE t [a0, a1, a2, a3, a4] x != 0 then some (AEnd.ret [(AV.d Ty.str []).pr ((I 0).pr (AV.nils.pr (AV.d Ty.unit PUnit.unit))), I 1], [(0, AObj.arr 25 ((i64T).pair ((i64T).slice.pair ((i64T).slice.pair Ty.unit))) 0 false [(t, [a0, a1, a2, a3, a4], x, PUnit.unit)]), (1, AObj.arr 37 (Ty.str.pair ((i64T).pair ((i64T).pair ((i64T).pair (Ty.str.pair (((i64T).pair ((i64T).slice.pair ((i64T).slice.pair Ty.unit))).pair ((i64T).slice.pair Ty.unit))))))) 0 false [([112, 101, 114, 109], 7, 0, 0, [], (0, [], [], PUnit.unit), [p0, p1, p2, p3, p4], PUnit.unit)]), (2, AObj.arr 9 Ty.str 0 false [[120]])])
    else 
      bif !numOk t 0 then some (AEnd.ret [(AV.d Ty.str []).pr ((I 0).pr (AV.nils.pr (AV.d Ty.unit PUnit.unit))), I 5], [(0, AObj.arr 25 ((i64T).pair ((i64T).slice.pair ((i64T).slice.pair Ty.unit))) 0 false [(t, [a0, a1, a2, a3, a4], x, PUnit.unit)]), (1, AObj.arr 37 (Ty.str.pair ((i64T).pair ((i64T).pair ((i64T).pair (Ty.str.pair (((i64T).pair ((i64T).slice.pair ((i64T).slice.pair Ty.unit))).pair ((i64T).slice.pair Ty.unit))))))) 0 true [([112, 101, 114, 109], 7, 0, 0, [], (0, [], [], PUnit.unit), [p0, p1, p2, p3, p4], PUnit.unit)]), (2, AObj.arr 9 Ty.str 0 false [[120]])])
      else 
        bif countE [a0, a1, a2, a3, a4] != 0 then some (AEnd.ret [(AV.d Ty.str []).pr ((I 0).pr (AV.nils.pr (AV.d Ty.unit PUnit.unit))), I (countE [a0, a1, a2, a3, a4])], [(0, AObj.arr 25 ((i64T).pair ((i64T).slice.pair ((i64T).slice.pair Ty.unit))) 0 false [(t, [a0, a1, a2, a3, a4], x, PUnit.unit)]), (1, AObj.arr 37 (Ty.str.pair ((i64T).pair ((i64T).pair ((i64T).pair (Ty.str.pair (((i64T).pair ((i64T).slice.pair ((i64T).slice.pair Ty.unit))).pair ((i64T).slice.pair Ty.unit))))))) 0 true [([112, 101, 114, 109], 7, 0, 0, [], (0, [], [], PUnit.unit), [p0, p1, p2, p3, p4], PUnit.unit)]), (2, AObj.arr 9 Ty.str 0 false [[120]])])
        else 
          bif t == 6 then 
            bif numC 5 0 4 [p0, p1, p2, p3, p4] then (idx [a0, a1, a2, a3, a4] p0).bind fun v6 =>
                bif p1 == p0 then some (AEnd.ret [(AV.d Ty.str []).pr ((I 0).pr (AV.nils.pr (AV.d Ty.unit PUnit.unit))), I 4], [(0, AObj.arr 25 ((i64T).pair ((i64T).slice.pair ((i64T).slice.pair Ty.unit))) 0 false [(t, [a0, a1, a2, a3, a4], x, PUnit.unit)]), (1, AObj.arr 37 (Ty.str.pair ((i64T).pair ((i64T).pair ((i64T).pair (Ty.str.pair (((i64T).pair ((i64T).slice.pair ((i64T).slice.pair Ty.unit))).pair ((i64T).slice.pair Ty.unit))))))) 0 true [([112, 101, 114, 109], 7, 0, 0, [], (0, [], [], PUnit.unit), [p0, p1, p2, p3, p4], PUnit.unit)]), (2, AObj.arr 9 Ty.str 0 false [[120]])])
                else (idx [a0, a1, a2, a3, a4] p1).bind fun v8 =>
                    bif p2 == p0 then some (AEnd.ret [(AV.d Ty.str []).pr ((I 0).pr (AV.nils.pr (AV.d Ty.unit PUnit.unit))), I 4], [(0, AObj.arr 25 ((i64T).pair ((i64T).slice.pair ((i64T).slice.pair Ty.unit))) 0 false [(t, [a0, a1, a2, a3, a4], x, PUnit.unit)]), (1, AObj.arr 37 (Ty.str.pair ((i64T).pair ((i64T).pair ((i64T).pair (Ty.str.pair (((i64T).pair ((i64T).slice.pair ((i64T).slice.pair Ty.unit))).pair ((i64T).slice.pair Ty.unit))))))) 0 true [([112, 101, 114, 109], 7, 0, 0, [], (0, [], [], PUnit.unit), [p0, p1, p2, p3, p4], PUnit.unit)]), (2, AObj.arr 9 Ty.str 0 false [[120]])])
                    else 
                      bif p2 == p1 then some (AEnd.ret [(AV.d Ty.str []).pr ((I 0).pr (AV.nils.pr (AV.d Ty.unit PUnit.unit))), I 4], [(0, AObj.arr 25 ((i64T).pair ((i64T).slice.pair ((i64T).slice.pair Ty.unit))) 0 false [(t, [a0, a1, a2, a3, a4], x, PUnit.unit)]), (1, AObj.arr 37 (Ty.str.pair ((i64T).pair ((i64T).pair ((i64T).pair (Ty.str.pair (((i64T).pair ((i64T).slice.pair ((i64T).slice.pair Ty.unit))).pair ((i64T).slice.pair Ty.unit))))))) 0 true [([112, 101, 114, 109], 7, 0, 0, [], (0, [], [], PUnit.unit), [p0, p1, p2, p3, p4], PUnit.unit)]), (2, AObj.arr 9 Ty.str 0 false [[120]])])
                      else (idx [a0, a1, a2, a3, a4] p2).bind fun v11 =>
                          bif p3 == p0 then some (AEnd.ret [(AV.d Ty.str []).pr ((I 0).pr (AV.nils.pr (AV.d Ty.unit PUnit.unit))), I 4], [(0, AObj.arr 25 ((i64T).pair ((i64T).slice.pair ((i64T).slice.pair Ty.unit))) 0 false [(t, [a0, a1, a2, a3, a4], x, PUnit.unit)]), (1, AObj.arr 37 (Ty.str.pair ((i64T).pair ((i64T).pair ((i64T).pair (Ty.str.pair (((i64T).pair ((i64T).slice.pair ((i64T).slice.pair Ty.unit))).pair ((i64T).slice.pair Ty.unit))))))) 0 true [([112, 101, 114, 109], 7, 0, 0, [], (0, [], [], PUnit.unit), [p0, p1, p2, p3, p4], PUnit.unit)]), (2, AObj.arr 9 Ty.str 0 false [[120]])])
                          else 
                            bif p3 == p1 then some (AEnd.ret [(AV.d Ty.str []).pr ((I 0).pr (AV.nils.pr (AV.d Ty.unit PUnit.unit))), I 4], [(0, AObj.arr 25 ((i64T).pair ((i64T).slice.pair ((i64T).slice.pair Ty.unit))) 0 false [(t, [a0, a1, a2, a3, a4], x, PUnit.unit)]), (1, AObj.arr 37 (Ty.str.pair ((i64T).pair ((i64T).pair ((i64T).pair (Ty.str.pair (((i64T).pair ((i64T).slice.pair ((i64T).slice.pair Ty.unit))).pair ((i64T).slice.pair Ty.unit))))))) 0 true [([112, 101, 114, 109], 7, 0, 0, [], (0, [], [], PUnit.unit), [p0, p1, p2, p3, p4], PUnit.unit)]), (2, AObj.arr 9 Ty.str 0 false [[120]])])
                            else 
                              bif p3 == p2 then some (AEnd.ret [(AV.d Ty.str []).pr ((I 0).pr (AV.nils.pr (AV.d Ty.unit PUnit.unit))), I 4], [(0, AObj.arr 25 ((i64T).pair ((i64T).slice.pair ((i64T).slice.pair Ty.unit))) 0 false [(t, [a0, a1, a2, a3, a4], x, PUnit.unit)]), (1, AObj.arr 37 (Ty.str.pair ((i64T).pair ((i64T).pair ((i64T).pair (Ty.str.pair (((i64T).pair ((i64T).slice.pair ((i64T).slice.pair Ty.unit))).pair ((i64T).slice.pair Ty.unit))))))) 0 true [([112, 101, 114, 109], 7, 0, 0, [], (0, [], [], PUnit.unit), [p0, p1, p2, p3, p4], PUnit.unit)]), (2, AObj.arr 9 Ty.str 0 false [[120]])])
                              else (idx [a0, a1, a2, a3, a4] p3).bind fun v15 =>
                                  bif p4 == p0 then some (AEnd.ret [(AV.d Ty.str []).pr ((I 0).pr (AV.nils.pr (AV.d Ty.unit PUnit.unit))), I 4], [(0, AObj.arr 25 ((i64T).pair ((i64T).slice.pair ((i64T).slice.pair Ty.unit))) 0 false [(t, [a0, a1, a2, a3, a4], x, PUnit.unit)]), (1, AObj.arr 37 (Ty.str.pair ((i64T).pair ((i64T).pair ((i64T).pair (Ty.str.pair (((i64T).pair ((i64T).slice.pair ((i64T).slice.pair Ty.unit))).pair ((i64T).slice.pair Ty.unit))))))) 0 true [([112, 101, 114, 109], 7, 0, 0, [], (0, [], [], PUnit.unit), [p0, p1, p2, p3, p4], PUnit.unit)]), (2, AObj.arr 9 Ty.str 0 false [[120]])])
                                  else 
                                    bif p4 == p1 then some (AEnd.ret [(AV.d Ty.str []).pr ((I 0).pr (AV.nils.pr (AV.d Ty.unit PUnit.unit))), I 4], [(0, AObj.arr 25 ((i64T).pair ((i64T).slice.pair ((i64T).slice.pair Ty.unit))) 0 false [(t, [a0, a1, a2, a3, a4], x, PUnit.unit)]), (1, AObj.arr 37 (Ty.str.pair ((i64T).pair ((i64T).pair ((i64T).pair (Ty.str.pair (((i64T).pair ((i64T).slice.pair ((i64T).slice.pair Ty.unit))).pair ((i64T).slice.pair Ty.unit))))))) 0 true [([112, 101, 114, 109], 7, 0, 0, [], (0, [], [], PUnit.unit), [p0, p1, p2, p3, p4], PUnit.unit)]), (2, AObj.arr 9 Ty.str 0 false [[120]])])
                                    else 
                                      bif p4 == p2 then some (AEnd.ret [(AV.d Ty.str []).pr ((I 0).pr (AV.nils.pr (AV.d Ty.unit PUnit.unit))), I 4], [(0, AObj.arr 25 ((i64T).pair ((i64T).slice.pair ((i64T).slice.pair Ty.unit))) 0 false [(t, [a0, a1, a2, a3, a4], x, PUnit.unit)]), (1, AObj.arr 37 (Ty.str.pair ((i64T).pair ((i64T).pair ((i64T).pair (Ty.str.pair (((i64T).pair ((i64T).slice.pair ((i64T).slice.pair Ty.unit))).pair ((i64T).slice.pair Ty.unit))))))) 0 true [([112, 101, 114, 109], 7, 0, 0, [], (0, [], [], PUnit.unit), [p0, p1, p2, p3, p4], PUnit.unit)]), (2, AObj.arr 9 Ty.str 0 false [[120]])])
                                      else 
                                        bif p4 == p3 then some (AEnd.ret [(AV.d Ty.str []).pr ((I 0).pr (AV.nils.pr (AV.d Ty.unit PUnit.unit))), I 4], [(0, AObj.arr 25 ((i64T).pair ((i64T).slice.pair ((i64T).slice.pair Ty.unit))) 0 false [(t, [a0, a1, a2, a3, a4], x, PUnit.unit)]), (1, AObj.arr 37 (Ty.str.pair ((i64T).pair ((i64T).pair ((i64T).pair (Ty.str.pair (((i64T).pair ((i64T).slice.pair ((i64T).slice.pair Ty.unit))).pair ((i64T).slice.pair Ty.unit))))))) 0 true [([112, 101, 114, 109], 7, 0, 0, [], (0, [], [], PUnit.unit), [p0, p1, p2, p3, p4], PUnit.unit)]), (2, AObj.arr 9 Ty.str 0 false [[120]])])
                                        else (idx [a0, a1, a2, a3, a4] p4).bind fun v20 =>
                                            bif countE [v6, v8, v11, v15, v20] != 0 then some (AEnd.ret [(AV.d Ty.str []).pr ((I 0).pr (AV.nils.pr (AV.d Ty.unit PUnit.unit))), I (countE [v6, v8, v11, v15, v20])], [(0, AObj.arr 25 ((i64T).pair ((i64T).slice.pair ((i64T).slice.pair Ty.unit))) 0 false [(t, [a0, a1, a2, a3, a4], x, PUnit.unit)]), (1, AObj.arr 37 (Ty.str.pair ((i64T).pair ((i64T).pair ((i64T).pair (Ty.str.pair (((i64T).pair ((i64T).slice.pair ((i64T).slice.pair Ty.unit))).pair ((i64T).slice.pair Ty.unit))))))) 0 true [([112, 101, 114, 109], 7, 0, 0, [], (0, [], [], PUnit.unit), [p0, p1, p2, p3, p4], PUnit.unit)]), (2, AObj.arr 9 Ty.str 0 false [[120]])])
                                            else some (AEnd.ret [(AV.d Ty.str [121]).pr ((I t).pr ((AV.os 3 0).pr (AV.d Ty.unit PUnit.unit))), I 0], [(0, AObj.arr 25 ((i64T).pair ((i64T).slice.pair ((i64T).slice.pair Ty.unit))) 0 false [(t, [a0, a1, a2, a3, a4], x, PUnit.unit)]), (1, AObj.arr 37 (Ty.str.pair ((i64T).pair ((i64T).pair ((i64T).pair (Ty.str.pair (((i64T).pair ((i64T).slice.pair ((i64T).slice.pair Ty.unit))).pair ((i64T).slice.pair Ty.unit))))))) 0 true [([112, 101, 114, 109], 7, 0, 0, [], (0, [], [], PUnit.unit), [p0, p1, p2, p3, p4], PUnit.unit)]), (2, AObj.arr 9 Ty.str 0 false [[120]]), (3, AObj.arr 3 (i64T) 0 false [v6, v8, v11, v15, v20])])
            else some (AEnd.ret [(AV.d Ty.str []).pr ((I 0).pr (AV.nils.pr (AV.d Ty.unit PUnit.unit))), I 4], [(0, AObj.arr 25 ((i64T).pair ((i64T).slice.pair ((i64T).slice.pair Ty.unit))) 0 false [(t, [a0, a1, a2, a3, a4], x, PUnit.unit)]), (1, AObj.arr 37 (Ty.str.pair ((i64T).pair ((i64T).pair ((i64T).pair (Ty.str.pair (((i64T).pair ((i64T).slice.pair ((i64T).slice.pair Ty.unit))).pair ((i64T).slice.pair Ty.unit))))))) 0 true [([112, 101, 114, 109], 7, 0, 0, [], (0, [], [], PUnit.unit), [p0, p1, p2, p3, p4], PUnit.unit)]), (2, AObj.arr 9 Ty.str 0 false [[120]])])
          else 
            bif numC 5 0 4 [p0, p1, p2, p3, p4] then (idx [a0, a1, a2, a3, a4] p0).bind fun v6 =>
                bif p1 == p0 then some (AEnd.ret [(AV.d Ty.str []).pr ((I 0).pr (AV.nils.pr (AV.d Ty.unit PUnit.unit))), I 4], [(0, AObj.arr 25 ((i64T).pair ((i64T).slice.pair ((i64T).slice.pair Ty.unit))) 0 false [(t, [a0, a1, a2, a3, a4], x, PUnit.unit)]), (1, AObj.arr 37 (Ty.str.pair ((i64T).pair ((i64T).pair ((i64T).pair (Ty.str.pair (((i64T).pair ((i64T).slice.pair ((i64T).slice.pair Ty.unit))).pair ((i64T).slice.pair Ty.unit))))))) 0 true [([112, 101, 114, 109], 7, 0, 0, [], (0, [], [], PUnit.unit), [p0, p1, p2, p3, p4], PUnit.unit)]), (2, AObj.arr 9 Ty.str 0 false [[120]])])
                else (idx [a0, a1, a2, a3, a4] p1).bind fun v8 =>
                    bif p2 == p0 then some (AEnd.ret [(AV.d Ty.str []).pr ((I 0).pr (AV.nils.pr (AV.d Ty.unit PUnit.unit))), I 4], [(0, AObj.arr 25 ((i64T).pair ((i64T).slice.pair ((i64T).slice.pair Ty.unit))) 0 false [(t, [a0, a1, a2, a3, a4], x, PUnit.unit)]), (1, AObj.arr 37 (Ty.str.pair ((i64T).pair ((i64T).pair ((i64T).pair (Ty.str.pair (((i64T).pair ((i64T).slice.pair ((i64T).slice.pair Ty.unit))).pair ((i64T).slice.pair Ty.unit))))))) 0 true [([112, 101, 114, 109], 7, 0, 0, [], (0, [], [], PUnit.unit), [p0, p1, p2, p3, p4], PUnit.unit)]), (2, AObj.arr 9 Ty.str 0 false [[120]])])
                    else 
                      bif p2 == p1 then some (AEnd.ret [(AV.d Ty.str []).pr ((I 0).pr (AV.nils.pr (AV.d Ty.unit PUnit.unit))), I 4], [(0, AObj.arr 25 ((i64T).pair ((i64T).slice.pair ((i64T).slice.pair Ty.unit))) 0 false [(t, [a0, a1, a2, a3, a4], x, PUnit.unit)]), (1, AObj.arr 37 (Ty.str.pair ((i64T).pair ((i64T).pair ((i64T).pair (Ty.str.pair (((i64T).pair ((i64T).slice.pair ((i64T).slice.pair Ty.unit))).pair ((i64T).slice.pair Ty.unit))))))) 0 true [([112, 101, 114, 109], 7, 0, 0, [], (0, [], [], PUnit.unit), [p0, p1, p2, p3, p4], PUnit.unit)]), (2, AObj.arr 9 Ty.str 0 false [[120]])])
                      else (idx [a0, a1, a2, a3, a4] p2).bind fun v11 =>
                          bif p3 == p0 then some (AEnd.ret [(AV.d Ty.str []).pr ((I 0).pr (AV.nils.pr (AV.d Ty.unit PUnit.unit))), I 4], [(0, AObj.arr 25 ((i64T).pair ((i64T).slice.pair ((i64T).slice.pair Ty.unit))) 0 false [(t, [a0, a1, a2, a3, a4], x, PUnit.unit)]), (1, AObj.arr 37 (Ty.str.pair ((i64T).pair ((i64T).pair ((i64T).pair (Ty.str.pair (((i64T).pair ((i64T).slice.pair ((i64T).slice.pair Ty.unit))).pair ((i64T).slice.pair Ty.unit))))))) 0 true [([112, 101, 114, 109], 7, 0, 0, [], (0, [], [], PUnit.unit), [p0, p1, p2, p3, p4], PUnit.unit)]), (2, AObj.arr 9 Ty.str 0 false [[120]])])
                          else 
                            bif p3 == p1 then some (AEnd.ret [(AV.d Ty.str []).pr ((I 0).pr (AV.nils.pr (AV.d Ty.unit PUnit.unit))), I 4], [(0, AObj.arr 25 ((i64T).pair ((i64T).slice.pair ((i64T).slice.pair Ty.unit))) 0 false [(t, [a0, a1, a2, a3, a4], x, PUnit.unit)]), (1, AObj.arr 37 (Ty.str.pair ((i64T).pair ((i64T).pair ((i64T).pair (Ty.str.pair (((i64T).pair ((i64T).slice.pair ((i64T).slice.pair Ty.unit))).pair ((i64T).slice.pair Ty.unit))))))) 0 true [([112, 101, 114, 109], 7, 0, 0, [], (0, [], [], PUnit.unit), [p0, p1, p2, p3, p4], PUnit.unit)]), (2, AObj.arr 9 Ty.str 0 false [[120]])])
                            else 
                              bif p3 == p2 then some (AEnd.ret [(AV.d Ty.str []).pr ((I 0).pr (AV.nils.pr (AV.d Ty.unit PUnit.unit))), I 4], [(0, AObj.arr 25 ((i64T).pair ((i64T).slice.pair ((i64T).slice.pair Ty.unit))) 0 false [(t, [a0, a1, a2, a3, a4], x, PUnit.unit)]), (1, AObj.arr 37 (Ty.str.pair ((i64T).pair ((i64T).pair ((i64T).pair (Ty.str.pair (((i64T).pair ((i64T).slice.pair ((i64T).slice.pair Ty.unit))).pair ((i64T).slice.pair Ty.unit))))))) 0 true [([112, 101, 114, 109], 7, 0, 0, [], (0, [], [], PUnit.unit), [p0, p1, p2, p3, p4], PUnit.unit)]), (2, AObj.arr 9 Ty.str 0 false [[120]])])
                              else (idx [a0, a1, a2, a3, a4] p3).bind fun v15 =>
                                  bif p4 == p0 then some (AEnd.ret [(AV.d Ty.str []).pr ((I 0).pr (AV.nils.pr (AV.d Ty.unit PUnit.unit))), I 4], [(0, AObj.arr 25 ((i64T).pair ((i64T).slice.pair ((i64T).slice.pair Ty.unit))) 0 false [(t, [a0, a1, a2, a3, a4], x, PUnit.unit)]), (1, AObj.arr 37 (Ty.str.pair ((i64T).pair ((i64T).pair ((i64T).pair (Ty.str.pair (((i64T).pair ((i64T).slice.pair ((i64T).slice.pair Ty.unit))).pair ((i64T).slice.pair Ty.unit))))))) 0 true [([112, 101, 114, 109], 7, 0, 0, [], (0, [], [], PUnit.unit), [p0, p1, p2, p3, p4], PUnit.unit)]), (2, AObj.arr 9 Ty.str 0 false [[120]])])
                                  else 
                                    bif p4 == p1 then some (AEnd.ret [(AV.d Ty.str []).pr ((I 0).pr (AV.nils.pr (AV.d Ty.unit PUnit.unit))), I 4], [(0, AObj.arr 25 ((i64T).pair ((i64T).slice.pair ((i64T).slice.pair Ty.unit))) 0 false [(t, [a0, a1, a2, a3, a4], x, PUnit.unit)]), (1, AObj.arr 37 (Ty.str.pair ((i64T).pair ((i64T).pair ((i64T).pair (Ty.str.pair (((i64T).pair ((i64T).slice.pair ((i64T).slice.pair Ty.unit))).pair ((i64T).slice.pair Ty.unit))))))) 0 true [([112, 101, 114, 109], 7, 0, 0, [], (0, [], [], PUnit.unit), [p0, p1, p2, p3, p4], PUnit.unit)]), (2, AObj.arr 9 Ty.str 0 false [[120]])])
                                    else 
                                      bif p4 == p2 then some (AEnd.ret [(AV.d Ty.str []).pr ((I 0).pr (AV.nils.pr (AV.d Ty.unit PUnit.unit))), I 4], [(0, AObj.arr 25 ((i64T).pair ((i64T).slice.pair ((i64T).slice.pair Ty.unit))) 0 false [(t, [a0, a1, a2, a3, a4], x, PUnit.unit)]), (1, AObj.arr 37 (Ty.str.pair ((i64T).pair ((i64T).pair ((i64T).pair (Ty.str.pair (((i64T).pair ((i64T).slice.pair ((i64T).slice.pair Ty.unit))).pair ((i64T).slice.pair Ty.unit))))))) 0 true [([112, 101, 114, 109], 7, 0, 0, [], (0, [], [], PUnit.unit), [p0, p1, p2, p3, p4], PUnit.unit)]), (2, AObj.arr 9 Ty.str 0 false [[120]])])
                                      else 
                                        bif p4 == p3 then some (AEnd.ret [(AV.d Ty.str []).pr ((I 0).pr (AV.nils.pr (AV.d Ty.unit PUnit.unit))), I 4], [(0, AObj.arr 25 ((i64T).pair ((i64T).slice.pair ((i64T).slice.pair Ty.unit))) 0 false [(t, [a0, a1, a2, a3, a4], x, PUnit.unit)]), (1, AObj.arr 37 (Ty.str.pair ((i64T).pair ((i64T).pair ((i64T).pair (Ty.str.pair (((i64T).pair ((i64T).slice.pair ((i64T).slice.pair Ty.unit))).pair ((i64T).slice.pair Ty.unit))))))) 0 true [([112, 101, 114, 109], 7, 0, 0, [], (0, [], [], PUnit.unit), [p0, p1, p2, p3, p4], PUnit.unit)]), (2, AObj.arr 9 Ty.str 0 false [[120]])])
                                        else (idx [a0, a1, a2, a3, a4] p4).bind fun v20 =>
                                            bif countE [v6, v8, v11, v15, v20] != 0 then some (AEnd.ret [(AV.d Ty.str []).pr ((I 0).pr (AV.nils.pr (AV.d Ty.unit PUnit.unit))), I (countE [v6, v8, v11, v15, v20])], [(0, AObj.arr 25 ((i64T).pair ((i64T).slice.pair ((i64T).slice.pair Ty.unit))) 0 false [(t, [a0, a1, a2, a3, a4], x, PUnit.unit)]), (1, AObj.arr 37 (Ty.str.pair ((i64T).pair ((i64T).pair ((i64T).pair (Ty.str.pair (((i64T).pair ((i64T).slice.pair ((i64T).slice.pair Ty.unit))).pair ((i64T).slice.pair Ty.unit))))))) 0 true [([112, 101, 114, 109], 7, 0, 0, [], (0, [], [], PUnit.unit), [p0, p1, p2, p3, p4], PUnit.unit)]), (2, AObj.arr 9 Ty.str 0 false [[120]])])
                                            else some (AEnd.ret [(AV.d Ty.str [121]).pr ((I t).pr ((AV.os 3 0).pr (AV.d Ty.unit PUnit.unit))), I 0], [(0, AObj.arr 25 ((i64T).pair ((i64T).slice.pair ((i64T).slice.pair Ty.unit))) 0 false [(t, [a0, a1, a2, a3, a4], x, PUnit.unit)]), (1, AObj.arr 37 (Ty.str.pair ((i64T).pair ((i64T).pair ((i64T).pair (Ty.str.pair (((i64T).pair ((i64T).slice.pair ((i64T).slice.pair Ty.unit))).pair ((i64T).slice.pair Ty.unit))))))) 0 true [([112, 101, 114, 109], 7, 0, 0, [], (0, [], [], PUnit.unit), [p0, p1, p2, p3, p4], PUnit.unit)]), (2, AObj.arr 9 Ty.str 0 false [[120]]), (3, AObj.arr 3 (i64T) 0 false [v6, v8, v11, v15, v20])])
            else some (AEnd.ret [(AV.d Ty.str []).pr ((I 0).pr (AV.nils.pr (AV.d Ty.unit PUnit.unit))), I 4], [(0, AObj.arr 25 ((i64T).pair ((i64T).slice.pair ((i64T).slice.pair Ty.unit))) 0 false [(t, [a0, a1, a2, a3, a4], x, PUnit.unit)]), (1, AObj.arr 37 (Ty.str.pair ((i64T).pair ((i64T).pair ((i64T).pair (Ty.str.pair (((i64T).pair ((i64T).slice.pair ((i64T).slice.pair Ty.unit))).pair ((i64T).slice.pair Ty.unit))))))) 0 true [([112, 101, 114, 109], 7, 0, 0, [], (0, [], [], PUnit.unit), [p0, p1, p2, p3, p4], PUnit.unit)]), (2, AObj.arr 9 Ty.str 0 false [[120]])])
  else none := by kernel_rfl
theorem mh6_eq (t a0 a1 a2 a3 a4 a5 p0 p1 p2 p3 p4 p5 : Int) (x : List Int) : runC gBh Tryz.f42 6 [(3, [2, 4, 6, 9, 10, 11])] [nodeA strTR [] [121] (.os 2 0) (.os 1 0), .os 0 0] (hpTb false t [a0, a1, a2, a3, a4, a5] x [lattr strPerm [p0, p1, p2, p3, p4, p5]]) ah =
  bif decide (6 ≤ 9223372036854775807 ∧ x.length ≤ 9223372036854775807) then 
    bif tenE t [a0, a1, a2, a3, a4, a5] x != 0 then some (AEnd.ret [(AV.d Ty.str []).pr ((I 0).pr (AV.nils.pr (AV.d Ty.unit PUnit.unit))), I 1], [(0, AObj.arr 25 ((i64T).pair ((i64T).slice.pair ((i64T).slice.pair Ty.unit))) 0 false [(t, [a0, a1, a2, a3, a4, a5], x, PUnit.unit)]), (1, AObj.arr 37 (Ty.str.pair ((i64T).pair ((i64T).pair ((i64T).pair (Ty.str.pair (((i64T).pair ((i64T).slice.pair ((i64T).slice.pair Ty.unit))).pair ((i64T).slice.pair Ty.unit))))))) 0 false [([112, 101, 114, 109], 7, 0, 0, [], (0, [], [], PUnit.unit), [p0, p1, p2, p3, p4, p5], PUnit.unit)]), (2, AObj.arr 9 Ty.str 0 false [[120]])])
    else 
      bif !numOk t 0 then some (AEnd.ret [(AV.d Ty.str []).pr ((I 0).pr (AV.nils.pr (AV.d Ty.unit PUnit.unit))), I 5], [(0, AObj.arr 25 ((i64T).pair ((i64T).slice.pair ((i64T).slice.pair Ty.unit))) 0 false [(t, [a0, a1, a2, a3, a4, a5], x, PUnit.unit)]), (1, AObj.arr 37 (Ty.str.pair ((i64T).pair ((i64T).pair ((i64T).pair (Ty.str.pair (((i64T).pair ((i64T).slice.pair ((i64T).slice.pair Ty.unit))).pair ((i64T).slice.pair Ty.unit))))))) 0 true [([112, 101, 114, 109], 7, 0, 0, [], (0, [], [], PUnit.unit), [p0, p1, p2, p3, p4, p5], PUnit.unit)]), (2, AObj.arr 9 Ty.str 0 false [[120]])])
      else 
        bif countE [a0, a1, a2, a3, a4, a5] != 0 then some (AEnd.ret [(AV.d Ty.str []).pr ((I 0).pr (AV.nils.pr (AV.d Ty.unit PUnit.unit))), I (countE [a0, a1, a2, a3, a4, a5])], [(0, AObj.arr 25 ((i64T).pair ((i64T).slice.pair ((i64T).slice.pair Ty.unit))) 0 false [(t, [a0, a1, a2, a3, a4, a5], x, PUnit.unit)]), (1, AObj.arr 37 (Ty.str.pair ((i64T).pair ((i64T).pair ((i64T).pair (Ty.str.pair (((i64T).pair ((i64T).slice.pair ((i64T).slice.pair Ty.unit))).pair ((i64T).slice.pair Ty.unit))))))) 0 true [([112, 101, 114, 109], 7, 0, 0, [], (0, [], [], PUnit.unit), [p0, p1, p2, p3, p4, p5], PUnit.unit)]), (2, AObj.arr 9 Ty.str 0 false [[120]])])
        else 
          bif t == 6 then 
            bif numC 6 0 5 [p0, p1, p2, p3, p4, p5] then (idx [a0, a1, a2, a3, a4, a5] p0).bind fun v6 =>
                bif p1 == p0 then some (AEnd.ret [(AV.d Ty.str []).pr ((I 0).pr (AV.nils.pr (AV.d Ty.unit PUnit.unit))), I 4], [(0, AObj.arr 25 ((i64T).pair ((i64T).slice.pair ((i64T).slice.pair Ty.unit))) 0 false [(t, [a0, a1, a2, a3, a4, a5], x, PUnit.unit)]), (1, AObj.arr 37 (Ty.str.pair ((i64T).pair ((i64T).pair ((i64T).pair (Ty.str.pair (((i64T).pair ((i64T).slice.pair ((i64T).slice.pair Ty.unit))).pair ((i64T).slice.pair Ty.unit))))))) 0 true [([112, 101, 114, 109], 7, 0, 0, [], (0, [], [], PUnit.unit), [p0, p1, p2, p3, p4, p5], PUnit.unit)]), (2, AObj.arr 9 Ty.str 0 false [[120]])])
                else (idx [a0, a1, a2, a3, a4, a5] p1).bind fun v8 =>
                    bif p2 == p0 then some (AEnd.ret [(AV.d Ty.str []).pr ((I 0).pr (AV.nils.pr (AV.d Ty.unit PUnit.unit))), I 4], [(0, AObj.arr 25 ((i64T).pair ((i64T).slice.pair ((i64T).slice.pair Ty.unit))) 0 false [(t, [a0, a1, a2, a3, a4, a5], x, PUnit.unit)]), (1, AObj.arr 37 (Ty.str.pair ((i64T).pair ((i64T).pair ((i64T).pair (Ty.str.pair (((i64T).pair ((i64T).slice.pair ((i64T).slice.pair Ty.unit))).pair ((i64T).slice.pair Ty.unit))))))) 0 true [([112, 101, 114, 109], 7, 0, 0, [], (0, [], [], PUnit.unit), [p0, p1, p2, p3, p4, p5], PUnit.unit)]), (2, AObj.arr 9 Ty.str 0 false [[120]])])
                    else 
                      bif p2 == p1 then some (AEnd.ret [(AV.d Ty.str []).pr ((I 0).pr (AV.nils.pr (AV.d Ty.unit PUnit.unit))), I 4], [(0, AObj.arr 25 ((i64T).pair ((i64T).slice.pair ((i64T).slice.pair Ty.unit))) 0 false [(t, [a0, a1, a2, a3, a4, a5], x, PUnit.unit)]), (1, AObj.arr 37 (Ty.str.pair ((i64T).pair ((i64T).pair ((i64T).pair (Ty.str.pair (((i64T).pair ((i64T).slice.pair ((i64T).slice.pair Ty.unit))).pair ((i64T).slice.pair Ty.unit))))))) 0 true [([112, 101, 114, 109], 7, 0, 0, [], (0, [], [], PUnit.unit), [p0, p1, p2, p3, p4, p5], PUnit.unit)]), (2, AObj.arr 9 Ty.str 0 false [[120]])])
                      else (idx [a0, a1, a2, a3, a4, a5] p2).bind fun v11 =>
                          bif p3 == p0 then some (AEnd.ret [(AV.d Ty.str []).pr ((I 0).pr (AV.nils.pr (AV.d Ty.unit PUnit.unit))), I 4], [(0, AObj.arr 25 ((i64T).pair ((i64T).slice.pair ((i64T).slice.pair Ty.unit))) 0 false [(t, [a0, a1, a2, a3, a4, a5], x, PUnit.unit)]), (1, AObj.arr 37 (Ty.str.pair ((i64T).pair ((i64T).pair ((i64T).pair (Ty.str.pair (((i64T).pair ((i64T).slice.pair ((i64T).slice.pair Ty.unit))).pair ((i64T).slice.pair Ty.unit))))))) 0 true [([112, 101, 114, 109], 7, 0, 0, [], (0, [], [], PUnit.unit), [p0, p1, p2, p3, p4, p5], PUnit.unit)]), (2, AObj.arr 9 Ty.str 0 false [[120]])])
                          else 
                            bif p3 == p1 then some (AEnd.ret [(AV.d Ty.str []).pr ((I 0).pr (AV.nils.pr (AV.d Ty.unit PUnit.unit))), I 4], [(0, AObj.arr 25 ((i64T).pair ((i64T).slice.pair ((i64T).slice.pair Ty.unit))) 0 false [(t, [a0, a1, a2, a3, a4, a5], x, PUnit.unit)]), (1, AObj.arr 37 (Ty.str.pair ((i64T).pair ((i64T).pair ((i64T).pair (Ty.str.pair (((i64T).pair ((i64T).slice.pair ((i64T).slice.pair Ty.unit))).pair ((i64T).slice.pair Ty.unit))))))) 0 true [([112, 101, 114, 109], 7, 0, 0, [], (0, [], [], PUnit.unit), [p0, p1, p2, p3, p4, p5], PUnit.unit)]), (2, AObj.arr 9 Ty.str 0 false [[120]])])
                            else 
                              bif p3 == p2 then some (AEnd.ret [(AV.d Ty.str []).pr ((I 0).pr (AV.nils.pr (AV.d Ty.unit PUnit.unit))), I 4], [(0, AObj.arr 25 ((i64T).pair ((i64T).slice.pair ((i64T).slice.pair Ty.unit))) 0 false [(t, [a0, a1, a2, a3, a4, a5], x, PUnit.unit)]), (1, AObj.arr 37 (Ty.str.pair ((i64T).pair ((i64T).pair ((i64T).pair (Ty.str.pair (((i64T).pair ((i64T).slice.pair ((i64T).slice.pair Ty.unit))).pair ((i64T).slice.pair Ty.unit))))))) 0 true [([112, 101, 114, 109], 7, 0, 0, [], (0, [], [], PUnit.unit), [p0, p1, p2, p3, p4, p5], PUnit.unit)]), (2, AObj.arr 9 Ty.str 0 false [[120]])])
                              else (idx [a0, a1, a2, a3, a4, a5] p3).bind fun v15 =>
                                  bif p4 == p0 then some (AEnd.ret [(AV.d Ty.str []).pr ((I 0).pr (AV.nils.pr (AV.d Ty.unit PUnit.unit))), I 4], [(0, AObj.arr 25 ((i64T).pair ((i64T).slice.pair ((i64T).slice.pair Ty.unit))) 0 false [(t, [a0, a1, a2, a3, a4, a5], x, PUnit.unit)]), (1, AObj.arr 37 (Ty.str.pair ((i64T).pair ((i64T).pair ((i64T).pair (Ty.str.pair (((i64T).pair ((i64T).slice.pair ((i64T).slice.pair Ty.unit))).pair ((i64T).slice.pair Ty.unit))))))) 0 true [([112, 101, 114, 109], 7, 0, 0, [], (0, [], [], PUnit.unit), [p0, p1, p2, p3, p4, p5], PUnit.unit)]), (2, AObj.arr 9 Ty.str 0 false [[120]])])
                                  else 
                                    bif p4 == p1 then some (AEnd.ret [(AV.d Ty.str []).pr ((I 0).pr (AV.nils.pr (AV.d Ty.unit PUnit.unit))), I 4], [(0, AObj.arr 25 ((i64T).pair ((i64T).slice.pair ((i64T).slice.pair Ty.unit))) 0 false [(t, [a0, a1, a2, a3, a4, a5], x, PUnit.unit)]), (1, AObj.arr 37 (Ty.str.pair ((i64T).pair ((i64T).pair ((i64T).pair (Ty.str.pair (((i64T).pair ((i64T).slice.pair ((i64T).slice.pair Ty.unit))).pair ((i64T).slice.pair Ty.unit))))))) 0 true [([112, 101, 114, 109], 7, 0, 0, [], (0, [], [], PUnit.unit), [p0, p1, p2, p3, p4, p5], PUnit.unit)]), (2, AObj.arr 9 Ty.str 0 false [[120]])])
                                    else 
                                      bif p4 == p2 then some (AEnd.ret [(AV.d Ty.str []).pr ((I 0).pr (AV.nils.pr (AV.d Ty.unit PUnit.unit))), I 4], [(0, AObj.arr 25 ((i64T).pair ((i64T).slice.pair ((i64T).slice.pair Ty.unit))) 0 false [(t, [a0, a1, a2, a3, a4, a5], x, PUnit.unit)]), (1, AObj.arr 37 (Ty.str.pair ((i64T).pair ((i64T).pair ((i64T).pair (Ty.str.pair (((i64T).pair ((i64T).slice.pair ((i64T).slice.pair Ty.unit))).pair ((i64T).slice.pair Ty.unit))))))) 0 true [([112, 101, 114, 109], 7, 0, 0, [], (0, [], [], PUnit.unit), [p0, p1, p2, p3, p4, p5], PUnit.unit)]), (2, AObj.arr 9 Ty.str 0 false [[120]])])
                                      else 
                                        bif p4 == p3 then some (AEnd.ret [(AV.d Ty.str []).pr ((I 0).pr (AV.nils.pr (AV.d Ty.unit PUnit.unit))), I 4], [(0, AObj.arr 25 ((i64T).pair ((i64T).slice.pair ((i64T).slice.pair Ty.unit))) 0 false [(t, [a0, a1, a2, a3, a4, a5], x, PUnit.unit)]), (1, AObj.arr 37 (Ty.str.pair ((i64T).pair ((i64T).pair ((i64T).pair (Ty.str.pair (((i64T).pair ((i64T).slice.pair ((i64T).slice.pair Ty.unit))).pair ((i64T).slice.pair Ty.unit))))))) 0 true [([112, 101, 114, 109], 7, 0, 0, [], (0, [], [], PUnit.unit), [p0, p1, p2, p3, p4, p5], PUnit.unit)]), (2, AObj.arr 9 Ty.str 0 false [[120]])])
                                        else (idx [a0, a1, a2, a3, a4, a5] p4).bind fun v20 =>
                                            bif p5 == p0 then some (AEnd.ret [(AV.d Ty.str []).pr ((I 0).pr (AV.nils.pr (AV.d Ty.unit PUnit.unit))), I 4], [(0, AObj.arr 25 ((i64T).pair ((i64T).slice.pair ((i64T).slice.pair Ty.unit))) 0 false [(t, [a0, a1, a2, a3, a4, a5], x, PUnit.unit)]), (1, AObj.arr 37 (Ty.str.pair ((i64T).pair ((i64T).pair ((i64T).pair (Ty.str.pair (((i64T).pair ((i64T).slice.pair ((i64T).slice.pair Ty.unit))).pair ((i64T).slice.pair Ty.unit))))))) 0 true [([112, 101, 114, 109], 7, 0, 0, [], (0, [], [], PUnit.unit), [p0, p1, p2, p3, p4, p5], PUnit.unit)]), (2, AObj.arr 9 Ty.str 0 false [[120]])])
                                            else 
                                              bif p5 == p1 then some (AEnd.ret [(AV.d Ty.str []).pr ((I 0).pr (AV.nils.pr (AV.d Ty.unit PUnit.unit))), I 4], [(0, AObj.arr 25 ((i64T).pair ((i64T).slice.pair ((i64T).slice.pair Ty.unit))) 0 false [(t, [a0, a1, a2, a3, a4, a5], x, PUnit.unit)]), (1, AObj.arr 37 (Ty.str.pair ((i64T).pair ((i64T).pair ((i64T).pair (Ty.str.pair (((i64T).pair ((i64T).slice.pair ((i64T).slice.pair Ty.unit))).pair ((i64T).slice.pair Ty.unit))))))) 0 true [([112, 101, 114, 109], 7, 0, 0, [], (0, [], [], PUnit.unit), [p0, p1, p2, p3, p4, p5], PUnit.unit)]), (2, AObj.arr 9 Ty.str 0 false [[120]])])
                                              else 
                                                bif p5 == p2 then some (AEnd.ret [(AV.d Ty.str []).pr ((I 0).pr (AV.nils.pr (AV.d Ty.unit PUnit.unit))), I 4], [(0, AObj.arr 25 ((i64T).pair ((i64T).slice.pair ((i64T).slice.pair Ty.unit))) 0 false [(t, [a0, a1, a2, a3, a4, a5], x, PUnit.unit)]), (1, AObj.arr 37 (Ty.str.pair ((i64T).pair ((i64T).pair ((i64T).pair (Ty.str.pair (((i64T).pair ((i64T).slice.pair ((i64T).slice.pair Ty.unit))).pair ((i64T).slice.pair Ty.unit))))))) 0 true [([112, 101, 114, 109], 7, 0, 0, [], (0, [], [], PUnit.unit), [p0, p1, p2, p3, p4, p5], PUnit.unit)]), (2, AObj.arr 9 Ty.str 0 false [[120]])])
                                                else 
                                                  bif p5 == p3 then some (AEnd.ret [(AV.d Ty.str []).pr ((I 0).pr (AV.nils.pr (AV.d Ty.unit PUnit.unit))), I 4], [(0, AObj.arr 25 ((i64T).pair ((i64T).slice.pair ((i64T).slice.pair Ty.unit))) 0 false [(t, [a0, a1, a2, a3, a4, a5], x, PUnit.unit)]), (1, AObj.arr 37 (Ty.str.pair ((i64T).pair ((i64T).pair ((i64T).pair (Ty.str.pair (((i64T).pair ((i64T).slice.pair ((i64T).slice.pair Ty.unit))).pair ((i64T).slice.pair Ty.unit))))))) 0 true [([112, 101, 114, 109], 7, 0, 0, [], (0, [], [], PUnit.unit), [p0, p1, p2, p3, p4, p5], PUnit.unit)]), (2, AObj.arr 9 Ty.str 0 false [[120]])])
                                                  else 
                                                    bif p5 == p4 then some (AEnd.ret [(AV.d Ty.str []).pr ((I 0).pr (AV.nils.pr (AV.d Ty.unit PUnit.unit))), I 4], [(0, AObj.arr 25 ((i64T).pair ((i64T).slice.pair ((i64T).slice.pair Ty.unit))) 0 false [(t, [a0, a1, a2, a3, a4, a5], x, PUnit.unit)]), (1, AObj.arr 37 (Ty.str.pair ((i64T).pair ((i64T).pair ((i64T).pair (Ty.str.pair (((i64T).pair ((i64T).slice.pair ((i64T).slice.pair Ty.unit))).pair ((i64T).slice.pair Ty.unit))))))) 0 true [([112, 101, 114, 109], 7, 0, 0, [], (0, [], [], PUnit.unit), [p0, p1, p2, p3, p4, p5], PUnit.unit)]), (2, AObj.arr 9 Ty.str 0 false [[120]])])
                                                    else (idx [a0, a1, a2, a3, a4, a5] p5).bind fun v26 =>
                                                        bif countE [v6, v8, v11, v15, v20, v26] != 0 then some (AEnd.ret [(AV.d Ty.str []).pr ((I 0).pr (AV.nils.pr (AV.d Ty.unit PUnit.unit))), I (countE [v6, v8, v11, v15, v20, v26])], [(0, AObj.arr 25 ((i64T).pair ((i64T).slice.pair ((i64T).slice.pair Ty.unit))) 0 false [(t, [a0, a1, a2, a3, a4, a5], x, PUnit.unit)]), (1, AObj.arr 37 (Ty.str.pair ((i64T).pair ((i64T).pair ((i64T).pair (Ty.str.pair (((i64T).pair ((i64T).slice.pair ((i64T).slice.pair Ty.unit))).pair ((i64T).slice.pair Ty.unit))))))) 0 true [([112, 101, 114, 109], 7, 0, 0, [], (0, [], [], PUnit.unit), [p0, p1, p2, p3, p4, p5], PUnit.unit)]), (2, AObj.arr 9 Ty.str 0 false [[120]])])
                                                        else some (AEnd.ret [(AV.d Ty.str [121]).pr ((I t).pr ((AV.os 3 0).pr (AV.d Ty.unit PUnit.unit))), I 0], [(0, AObj.arr 25 ((i64T).pair ((i64T).slice.pair ((i64T).slice.pair Ty.unit))) 0 false [(t, [a0, a1, a2, a3, a4, a5], x, PUnit.unit)]), (1, AObj.arr 37 (Ty.str.pair ((i64T).pair ((i64T).pair ((i64T).pair (Ty.str.pair (((i64T).pair ((i64T).slice.pair ((i64T).slice.pair Ty.unit))).pair ((i64T).slice.pair Ty.unit))))))) 0 true [([112, 101, 114, 109], 7, 0, 0, [], (0, [], [], PUnit.unit), [p0, p1, p2, p3, p4, p5], PUnit.unit)]), (2, AObj.arr 9 Ty.str 0 false [[120]]), (3, AObj.arr 3 (i64T) 0 false [v6, v8, v11, v15, v20, v26])])
            else some (AEnd.ret [(AV.d Ty.str []).pr ((I 0).pr (AV.nils.pr (AV.d Ty.unit PUnit.unit))), I 4], [(0, AObj.arr 25 ((i64T).pair ((i64T).slice.pair ((i64T).slice.pair Ty.unit))) 0 false [(t, [a0, a1, a2, a3, a4, a5], x, PUnit.unit)]), (1, AObj.arr 37 (Ty.str.pair ((i64T).pair ((i64T).pair ((i64T).pair (Ty.str.pair (((i64T).pair ((i64T).slice.pair ((i64T).slice.pair Ty.unit))).pair ((i64T).slice.pair Ty.unit))))))) 0 true [([112, 101, 114, 109], 7, 0, 0, [], (0, [], [], PUnit.unit), [p0, p1, p2, p3, p4, p5], PUnit.unit)]), (2, AObj.arr 9 Ty.str 0 false [[120]])])
          else 
            bif numC 6 0 5 [p0, p1, p2, p3, p4, p5] then (idx [a0, a1, a2, a3, a4, a5] p0).bind fun v6 =>
                bif p1 == p0 then some (AEnd.ret [(AV.d Ty.str []).pr ((I 0).pr (AV.nils.pr (AV.d Ty.unit PUnit.unit))), I 4], [(0, AObj.arr 25 ((i64T).pair ((i64T).slice.pair ((i64T).slice.pair Ty.unit))) 0 false [(t, [a0, a1, a2, a3, a4, a5], x, PUnit.unit)]), (1, AObj.arr 37 (Ty.str.pair ((i64T).pair ((i64T).pair ((i64T).pair (Ty.str.pair (((i64T).pair ((i64T).slice.pair ((i64T).slice.pair Ty.unit))).pair ((i64T).slice.pair Ty.unit))))))) 0 true [([112, 101, 114, 109], 7, 0, 0, [], (0, [], [], PUnit.unit), [p0, p1, p2, p3, p4, p5], PUnit.unit)]), (2, AObj.arr 9 Ty.str 0 false [[120]])])
                else (idx [a0, a1, a2, a3, a4, a5] p1).bind fun v8 =>
                    bif p2 == p0 then some (AEnd.ret [(AV.d Ty.str []).pr ((I 0).pr (AV.nils.pr (AV.d Ty.unit PUnit.unit))), I 4], [(0, AObj.arr 25 ((i64T).pair ((i64T).slice.pair ((i64T).slice.pair Ty.unit))) 0 false [(t, [a0, a1, a2, a3, a4, a5], x, PUnit.unit)]), (1, AObj.arr 37 (Ty.str.pair ((i64T).pair ((i64T).pair ((i64T).pair (Ty.str.pair (((i64T).pair ((i64T).slice.pair ((i64T).slice.pair Ty.unit))).pair ((i64T).slice.pair Ty.unit))))))) 0 true [([112, 101, 114, 109], 7, 0, 0, [], (0, [], [], PUnit.unit), [p0, p1, p2, p3, p4, p5], PUnit.unit)]), (2, AObj.arr 9 Ty.str 0 false [[120]])])
                    else 
                      bif p2 == p1 then some (AEnd.ret [(AV.d Ty.str []).pr ((I 0).pr (AV.nils.pr (AV.d Ty.unit PUnit.unit))), I 4], [(0, AObj.arr 25 ((i64T).pair ((i64T).slice.pair ((i64T).slice.pair Ty.unit))) 0 false [(t, [a0, a1, a2, a3, a4, a5], x, PUnit.unit)]), (1, AObj.arr 37 (Ty.str.pair ((i64T).pair ((i64T).pair ((i64T).pair (Ty.str.pair (((i64T).pair ((i64T).slice.pair ((i64T).slice.pair Ty.unit))).pair ((i64T).slice.pair Ty.unit))))))) 0 true [([112, 101, 114, 109], 7, 0, 0, [], (0, [], [], PUnit.unit), [p0, p1, p2, p3, p4, p5], PUnit.unit)]), (2, AObj.arr 9 Ty.str 0 false [[120]])])
                      else (idx [a0, a1, a2, a3, a4, a5] p2).bind fun v11 =>
                          bif p3 == p0 then some (AEnd.ret [(AV.d Ty.str []).pr ((I 0).pr (AV.nils.pr (AV.d Ty.unit PUnit.unit))), I 4], [(0, AObj.arr 25 ((i64T).pair ((i64T).slice.pair ((i64T).slice.pair Ty.unit))) 0 false [(t, [a0, a1, a2, a3, a4, a5], x, PUnit.unit)]), (1, AObj.arr 37 (Ty.str.pair ((i64T).pair ((i64T).pair ((i64T).pair (Ty.str.pair (((i64T).pair ((i64T).slice.pair ((i64T).slice.pair Ty.unit))).pair ((i64T).slice.pair Ty.unit))))))) 0 true [([112, 101, 114, 109], 7, 0, 0, [], (0, [], [], PUnit.unit), [p0, p1, p2, p3, p4, p5], PUnit.unit)]), (2, AObj.arr 9 Ty.str 0 false [[120]])])
                          else 
                            bif p3 == p1 then some (AEnd.ret [(AV.d Ty.str []).pr ((I 0).pr (AV.nils.pr (AV.d Ty.unit PUnit.unit))), I 4], [(0, AObj.arr 25 ((i64T).pair ((i64T).slice.pair ((i64T).slice.pair Ty.unit))) 0 false [(t, [a0, a1, a2, a3, a4, a5], x, PUnit.unit)]), (1, AObj.arr 37 (Ty.str.pair ((i64T).pair ((i64T).pair ((i64T).pair (Ty.str.pair (((i64T).pair ((i64T).slice.pair ((i64T).slice.pair Ty.unit))).pair ((i64T).slice.pair Ty.unit))))))) 0 true [([112, 101, 114, 109], 7, 0, 0, [], (0, [], [], PUnit.unit), [p0, p1, p2, p3, p4, p5], PUnit.unit)]), (2, AObj.arr 9 Ty.str 0 false [[120]])])
                            else 
                              bif p3 == p2 then some (AEnd.ret [(AV.d Ty.str []).pr ((I 0).pr (AV.nils.pr (AV.d Ty.unit PUnit.unit))), I 4], [(0, AObj.arr 25 ((i64T).pair ((i64T).slice.pair ((i64T).slice.pair Ty.unit))) 0 false [(t, [a0, a1, a2, a3, a4, a5], x, PUnit.unit)]), (1, AObj.arr 37 (Ty.str.pair ((i64T).pair ((i64T).pair ((i64T).pair (Ty.str.pair (((i64T).pair ((i64T).slice.pair ((i64T).slice.pair Ty.unit))).pair ((i64T).slice.pair Ty.unit))))))) 0 true [([112, 101, 114, 109], 7, 0, 0, [], (0, [], [], PUnit.unit), [p0, p1, p2, p3, p4, p5], PUnit.unit)]), (2, AObj.arr 9 Ty.str 0 false [[120]])])
                              else (idx [a0, a1, a2, a3, a4, a5] p3).bind fun v15 =>
                                  bif p4 == p0 then some (AEnd.ret [(AV.d Ty.str []).pr ((I 0).pr (AV.nils.pr (AV.d Ty.unit PUnit.unit))), I 4], [(0, AObj.arr 25 ((i64T).pair ((i64T).slice.pair ((i64T).slice.pair Ty.unit))) 0 false [(t, [a0, a1, a2, a3, a4, a5], x, PUnit.unit)]), (1, AObj.arr 37 (Ty.str.pair ((i64T).pair ((i64T).pair ((i64T).pair (Ty.str.pair (((i64T).pair ((i64T).slice.pair ((i64T).slice.pair Ty.unit))).pair ((i64T).slice.pair Ty.unit))))))) 0 true [([112, 101, 114, 109], 7, 0, 0, [], (0, [], [], PUnit.unit), [p0, p1, p2, p3, p4, p5], PUnit.unit)]), (2, AObj.arr 9 Ty.str 0 false [[120]])])
                                  else 
                                    bif p4 == p1 then some (AEnd.ret [(AV.d Ty.str []).pr ((I 0).pr (AV.nils.pr (AV.d Ty.unit PUnit.unit))), I 4], [(0, AObj.arr 25 ((i64T).pair ((i64T).slice.pair ((i64T).slice.pair Ty.unit))) 0 false [(t, [a0, a1, a2, a3, a4, a5], x, PUnit.unit)]), (1, AObj.arr 37 (Ty.str.pair ((i64T).pair ((i64T).pair ((i64T).pair (Ty.str.pair (((i64T).pair ((i64T).slice.pair ((i64T).slice.pair Ty.unit))).pair ((i64T).slice.pair Ty.unit))))))) 0 true [([112, 101, 114, 109], 7, 0, 0, [], (0, [], [], PUnit.unit), [p0, p1, p2, p3, p4, p5], PUnit.unit)]), (2, AObj.arr 9 Ty.str 0 false [[120]])])
                                    else 
                                      bif p4 == p2 then some (AEnd.ret [(AV.d Ty.str []).pr ((I 0).pr (AV.nils.pr (AV.d Ty.unit PUnit.unit))), I 4], [(0, AObj.arr 25 ((i64T).pair ((i64T).slice.pair ((i64T).slice.pair Ty.unit))) 0 false [(t, [a0, a1, a2, a3, a4, a5], x, PUnit.unit)]), (1, AObj.arr 37 (Ty.str.pair ((i64T).pair ((i64T).pair ((i64T).pair (Ty.str.pair (((i64T).pair ((i64T).slice.pair ((i64T).slice.pair Ty.unit))).pair ((i64T).slice.pair Ty.unit))))))) 0 true [([112, 101, 114, 109], 7, 0, 0, [], (0, [], [], PUnit.unit), [p0, p1, p2, p3, p4, p5], PUnit.unit)]), (2, AObj.arr 9 Ty.str 0 false [[120]])])
                                      else 
                                        bif p4 == p3 then some (AEnd.ret [(AV.d Ty.str []).pr ((I 0).pr (AV.nils.pr (AV.d Ty.unit PUnit.unit))), I 4], [(0, AObj.arr 25 ((i64T).pair ((i64T).slice.pair ((i64T).slice.pair Ty.unit))) 0 false [(t, [a0, a1, a2, a3, a4, a5], x, PUnit.unit)]), (1, AObj.arr 37 (Ty.str.pair ((i64T).pair ((i64T).pair ((i64T).pair (Ty.str.pair (((i64T).pair ((i64T).slice.pair ((i64T).slice.pair Ty.unit))).pair ((i64T).slice.pair Ty.unit))))))) 0 true [([112, 101, 114, 109], 7, 0, 0, [], (0, [], [], PUnit.unit), [p0, p1, p2, p3, p4, p5], PUnit.unit)]), (2, AObj.arr 9 Ty.str 0 false [[120]])])
                                        else (idx [a0, a1, a2, a3, a4, a5] p4).bind fun v20 =>
                                            bif p5 == p0 then some (AEnd.ret [(AV.d Ty.str []).pr ((I 0).pr (AV.nils.pr (AV.d Ty.unit PUnit.unit))), I 4], [(0, AObj.arr 25 ((i64T).pair ((i64T).slice.pair ((i64T).slice.pair Ty.unit))) 0 false [(t, [a0, a1, a2, a3, a4, a5], x, PUnit.unit)]), (1, AObj.arr 37 (Ty.str.pair ((i64T).pair ((i64T).pair ((i64T).pair (Ty.str.pair (((i64T).pair ((i64T).slice.pair ((i64T).slice.pair Ty.unit))).pair ((i64T).slice.pair Ty.unit))))))) 0 true [([112, 101, 114, 109], 7, 0, 0, [], (0, [], [], PUnit.unit), [p0, p1, p2, p3, p4, p5], PUnit.unit)]), (2, AObj.arr 9 Ty.str 0 false [[120]])])
                                            else 
                                              bif p5 == p1 then some (AEnd.ret [(AV.d Ty.str []).pr ((I 0).pr (AV.nils.pr (AV.d Ty.unit PUnit.unit))), I 4], [(0, AObj.arr 25 ((i64T).pair ((i64T).slice.pair ((i64T).slice.pair Ty.unit))) 0 false [(t, [a0, a1, a2, a3, a4, a5], x, PUnit.unit)]), (1, AObj.arr 37 (Ty.str.pair ((i64T).pair ((i64T).pair ((i64T).pair (Ty.str.pair (((i64T).pair ((i64T).slice.pair ((i64T).slice.pair Ty.unit))).pair ((i64T).slice.pair Ty.unit))))))) 0 true [([112, 101, 114, 109], 7, 0, 0, [], (0, [], [], PUnit.unit), [p0, p1, p2, p3, p4, p5], PUnit.unit)]), (2, AObj.arr 9 Ty.str 0 false [[120]])])
                                              else 
                                                bif p5 == p2 then some (AEnd.ret [(AV.d Ty.str []).pr ((I 0).pr (AV.nils.pr (AV.d Ty.unit PUnit.unit))), I 4], [(0, AObj.arr 25 ((i64T).pair ((i64T).slice.pair ((i64T).slice.pair Ty.unit))) 0 false [(t, [a0, a1, a2, a3, a4, a5], x, PUnit.unit)]), (1, AObj.arr 37 (Ty.str.pair ((i64T).pair ((i64T).pair ((i64T).pair (Ty.str.pair (((i64T).pair ((i64T).slice.pair ((i64T).slice.pair Ty.unit))).pair ((i64T).slice.pair Ty.unit))))))) 0 true [([112, 101, 114, 109], 7, 0, 0, [], (0, [], [], PUnit.unit), [p0, p1, p2, p3, p4, p5], PUnit.unit)]), (2, AObj.arr 9 Ty.str 0 false [[120]])])
                                                else 
                                                  bif p5 == p3 then some (AEnd.ret [(AV.d Ty.str []).pr ((I 0).pr (AV.nils.pr (AV.d Ty.unit PUnit.unit))), I 4], [(0, AObj.arr 25 ((i64T).pair ((i64T).slice.pair ((i64T).slice.pair Ty.unit))) 0 false [(t, [a0, a1, a2, a3, a4, a5], x, PUnit.unit)]), (1, AObj.arr 37 (Ty.str.pair ((i64T).pair ((i64T).pair ((i64T).pair (Ty.str.pair (((i64T).pair ((i64T).slice.pair ((i64T).slice.pair Ty.unit))).pair ((i64T).slice.pair Ty.unit))))))) 0 true [([112, 101, 114, 109], 7, 0, 0, [], (0, [], [], PUnit.unit), [p0, p1, p2, p3, p4, p5], PUnit.unit)]), (2, AObj.arr 9 Ty.str 0 false [[120]])])
                                                  else 
                                                    bif p5 == p4 then some (AEnd.ret [(AV.d Ty.str []).pr ((I 0).pr (AV.nils.pr (AV.d Ty.unit PUnit.unit))), I 4], [(0, AObj.arr 25 ((i64T).pair ((i64T).slice.pair ((i64T).slice.pair Ty.unit))) 0 false [(t, [a0, a1, a2, a3, a4, a5], x, PUnit.unit)]), (1, AObj.arr 37 (Ty.str.pair ((i64T).pair ((i64T).pair ((i64T).pair (Ty.str.pair (((i64T).pair ((i64T).slice.pair ((i64T).slice.pair Ty.unit))).pair ((i64T).slice.pair Ty.unit))))))) 0 true [([112, 101, 114, 109], 7, 0, 0, [], (0, [], [], PUnit.unit), [p0, p1, p2, p3, p4, p5], PUnit.unit)]), (2, AObj.arr 9 Ty.str 0 false [[120]])])
                                                    else (idx [a0, a1, a2, a3, a4, a5] p5).bind fun v26 =>
                                                        bif countE [v6, v8, v11, v15, v20, v26] != 0 then some (AEnd.ret [(AV.d Ty.str []).pr ((I 0).pr (AV.nils.pr (AV.d Ty.unit PUnit.unit))), I (countE [v6, v8, v11, v15, v20, v26])], [(0, AObj.arr 25 ((i64T).pair ((i64T).slice.pair ((i64T).slice.pair Ty.unit))) 0 false [(t, [a0, a1, a2, a3, a4, a5], x, PUnit.unit)]), (1, AObj.arr 37 (Ty.str.pair ((i64T).pair ((i64T).pair ((i64T).pair (Ty.str.pair (((i64T).pair ((i64T).slice.pair ((i64T).slice.pair Ty.unit))).pair ((i64T).slice.pair Ty.unit))))))) 0 true [([112, 101, 114, 109], 7, 0, 0, [], (0, [], [], PUnit.unit), [p0, p1, p2, p3, p4, p5], PUnit.unit)]), (2, AObj.arr 9 Ty.str 0 false [[120]])])
                                                        else some (AEnd.ret [(AV.d Ty.str [121]).pr ((I t).pr ((AV.os 3 0).pr (AV.d Ty.unit PUnit.unit))), I 0], [(0, AObj.arr 25 ((i64T).pair ((i64T).slice.pair ((i64T).slice.pair Ty.unit))) 0 false [(t, [a0, a1, a2, a3, a4, a5], x, PUnit.unit)]), (1, AObj.arr 37 (Ty.str.pair ((i64T).pair ((i64T).pair ((i64T).pair (Ty.str.pair (((i64T).pair ((i64T).slice.pair ((i64T).slice.pair Ty.unit))).pair ((i64T).slice.pair Ty.unit))))))) 0 true [([112, 101, 114, 109], 7, 0, 0, [], (0, [], [], PUnit.unit), [p0, p1, p2, p3, p4, p5], PUnit.unit)]), (2, AObj.arr 9 Ty.str 0 false [[120]]), (3, AObj.arr 3 (i64T) 0 false [v6, v8, v11, v15, v20, v26])])
            else some (AEnd.ret [(AV.d Ty.str []).pr ((I 0).pr (AV.nils.pr (AV.d Ty.unit PUnit.unit))), I 4], [(0, AObj.arr 25 ((i64T).pair ((i64T).slice.pair ((i64T).slice.pair Ty.unit))) 0 false [(t, [a0, a1, a2, a3, a4, a5], x, PUnit.unit)]), (1, AObj.arr 37 (Ty.str.pair ((i64T).pair ((i64T).pair ((i64T).pair (Ty.str.pair (((i64T).pair ((i64T).slice.pair ((i64T).slice.pair Ty.unit))).pair ((i64T).slice.pair Ty.unit))))))) 0 true [([112, 101, 114, 109], 7, 0, 0, [], (0, [], [], PUnit.unit), [p0, p1, p2, p3, p4, p5], PUnit.unit)]), (2, AObj.arr 9 Ty.str 0 false [[120]])])
  else none := by kernel_rfl
end Go.Proofs.XGT
namespace Go.Proofs.XGT
open Go.Vm Go
set_option maxRecDepth 100000
set_option maxHeartbeats 4000000
def numM (c lo hi : Int) (ot : List Int) : List Int → Tq
  | [] => .no
  | p :: pm => .br (decide ((p :: pm).length ≤ 2147483648)) (.br (!numC c lo hi (p :: pm)) (.leaf (.panic 123 4) (hpNu (p :: pm) ot)) .no) .no
theorem numV_run {c lo hi p : Int} {pm ot : List Int} (hl : (p :: pm).length ≤ 2147483648) (hc : (!numC c lo hi (p :: pm)) = true) : runC g106 Tryz.f160 6 [(4, [3, 4, 5, 14, 21, 22, 23])] [nodeA strTR [] [121] (.os 2 0) (.os 1 0), .d .str strPerm, .os 0 0, I c, I lo, I hi] (hpNu (p :: pm) ot) ah = some (.panic 123 4, hpNu (p :: pm) ot) := by
  refine (num_run hl).trans ?_
  have hc' : numC c lo hi (p :: pm) = false := by simpa using hc
  unfold numR
  rw [show (allIn lo hi (p :: pm) && (Int.ofNat (p :: pm).length == c)) = false from hc']
  rfl
def numV : List AV → LHp → Tq
  | [n, .d .str nm, .os 0 0, .d (.int .i64) c, .d (.int .i64) lo, .d (.int .i64) hi], [(0, .arr 2 (.int .i64) 0 false ot), (1, .arr 37 ((.pair .str (.pair (.int .i64) (.pair (.int .i64) (.pair (.int .i64) (.pair .str (.pair (.pair (.int .i64) (.pair (.slice (.int .i64)) (.pair (.slice (.int .i64)) .unit))) (.pair (.slice (.int .i64)) .unit)))))))) 0 true [a]), (2, .arr 9 .str 0 false ins)] =>
    (match nodeP n with
    | some (op, nm2, out, .os 2 0, .os 1 0) => gate (decide (op = strTR) && decide (nm2 = []) && decide (out = [121]) && decide (ins = [[120]]) && decide (nm = strPerm) && isL a strPerm) (numM c lo hi ot a.2.2.2.2.2.2.1)
    | _ => .no)
  | _, _ => .no
theorem numV_ok : FnE.OK e0.P e0.gam 160 (treeE numV) := by
  have h1 : FnE.OK e0.P e0.gam 160 (execFnC g106 Tryz.f160 6 [(4, [3, 4, 5, 14, 21, 22, 23])]) := y160_ok
  refine ⟨fun _ _ _ => Tq.eq _ _, fun args hs ae hs' h => ?_⟩
  have h' : (numV args hs).run ah = some (ae, hs') := h
  clear h
  unfold numV at h'
  split at h'
  · split at h'
    · rename_i hn
      rw [nodeP_some hn]
      obtain ⟨hb, h2⟩ := gate_run h'
      clear h'
      simp only [Bool.and_eq_true, decide_eq_true_eq] at hb
      obtain ⟨⟨⟨⟨⟨b1, b2⟩, b3⟩, b4⟩, b5⟩, b6⟩ := hb
      subst b1 b2 b3 b4 b5
      obtain ⟨l, rfl⟩ := isL_eq b6
      change (numM _ _ _ _ l).run ah = _ at h2
      cases l with
      | nil => cases h2
      | cons p pm =>
        obtain ⟨hl, h3⟩ := Tq.br_no h2
        obtain ⟨hc, h4⟩ := Tq.br_no h3
        exact h1.okC ((numV_run (of_decide_eq_true hl) hc).trans h4)
    · cases h'
  · cases h'
noncomputable def mkN : FnE := execFnC (g113.add 160 (treeElse numV y160)) Tryz.f162 6 [(6, [1, 6, 7, 24, 25, 26])]
theorem mkN_ok : FnE.OK e0.P e0.gam 162 mkN := execFnC_ok (g113_good.add (treeElse_ok numV_ok y160_ok)) hmix Tryz.func162 Tryz.call162 (by decide +kernel) rfl
noncomputable def mvN : FnE := execFnC (g149.add 162 mkN) Tryz.f127 7 []
theorem mvN_ok : FnE.OK e0.P e0.gam 127 mvN := execFnC_ok (g149_good.add mkN_ok) hmix Tryz.func127 Tryz.call127 (by decide +kernel) rfl
noncomputable def dmN : FnE := execFnC (g150.add 127 mvN) Tryz.f94 8 [(56, [3, 132, 133, 134])]
theorem dmN_ok : FnE.OK e0.P e0.gam 94 dmN := execFnC_ok (g150_good.add mvN_ok) hmix Tryz.func94 Tryz.call94 (by decide +kernel) rfl
noncomputable def ouN : FnE := execFnDC (g152.add 94 dmN) Tryz.f55 7 [(5, [1, 2, 4, 5, 26, 27, 28])] dd55
theorem ouN_ok : FnE.OK e0.P e0.gam 55 ouN := execFnDC_ok (g152_good.add dmN_ok) (execFnD_ok (D := dd55) (g152_good.add dmN_ok) hmix Tryz.func55 Tryz.call55 rfl rfl (by decide +kernel) rfl Tryz.func89 Tryz.call89 rfl rfl (by decide +kernel))
noncomputable def gBn : Env := g212.add 55 ouN
theorem gBn_good : gBn.Good := g212_good.add ouN_ok
theorem mn1_eq (t a0 p : Int) (pm x : List Int) : runC gBn Tryz.f42 6 [(3, [2, 4, 6, 9, 10, 11])] [nodeA strTR [] [121] (.os 2 0) (.os 1 0), .os 0 0] (hpTb false t [a0] x [lattr strPerm (p :: pm)]) ah =
  bif decide (1 ≤ 9223372036854775807 ∧ x.length ≤ 9223372036854775807) then 
    bif tenE t [a0] x != 0 then some (AEnd.ret [(AV.d Ty.str []).pr ((I 0).pr (AV.nils.pr (AV.d Ty.unit PUnit.unit))), I 1], [(0, AObj.arr 25 ((i64T).pair ((i64T).slice.pair ((i64T).slice.pair Ty.unit))) 0 false [(t, [a0], x, PUnit.unit)]), (1, AObj.arr 37 (Ty.str.pair ((i64T).pair ((i64T).pair ((i64T).pair (Ty.str.pair (((i64T).pair ((i64T).slice.pair ((i64T).slice.pair Ty.unit))).pair ((i64T).slice.pair Ty.unit))))))) 0 false [([112, 101, 114, 109], 7, 0, 0, [], (0, [], [], PUnit.unit), p :: pm, PUnit.unit)]), (2, AObj.arr 9 Ty.str 0 false [[120]])])
    else 
      bif !numOk t 0 then some (AEnd.ret [(AV.d Ty.str []).pr ((I 0).pr (AV.nils.pr (AV.d Ty.unit PUnit.unit))), I 5], [(0, AObj.arr 25 ((i64T).pair ((i64T).slice.pair ((i64T).slice.pair Ty.unit))) 0 false [(t, [a0], x, PUnit.unit)]), (1, AObj.arr 37 (Ty.str.pair ((i64T).pair ((i64T).pair ((i64T).pair (Ty.str.pair (((i64T).pair ((i64T).slice.pair ((i64T).slice.pair Ty.unit))).pair ((i64T).slice.pair Ty.unit))))))) 0 true [([112, 101, 114, 109], 7, 0, 0, [], (0, [], [], PUnit.unit), p :: pm, PUnit.unit)]), (2, AObj.arr 9 Ty.str 0 false [[120]])])
      else 
        bif countE [a0] != 0 then some (AEnd.ret [(AV.d Ty.str []).pr ((I 0).pr (AV.nils.pr (AV.d Ty.unit PUnit.unit))), I (countE [a0])], [(0, AObj.arr 25 ((i64T).pair ((i64T).slice.pair ((i64T).slice.pair Ty.unit))) 0 false [(t, [a0], x, PUnit.unit)]), (1, AObj.arr 37 (Ty.str.pair ((i64T).pair ((i64T).pair ((i64T).pair (Ty.str.pair (((i64T).pair ((i64T).slice.pair ((i64T).slice.pair Ty.unit))).pair ((i64T).slice.pair Ty.unit))))))) 0 true [([112, 101, 114, 109], 7, 0, 0, [], (0, [], [], PUnit.unit), p :: pm, PUnit.unit)]), (2, AObj.arr 9 Ty.str 0 false [[120]])])
        else 
          bif t == 6 then 
            bif decide ((p :: pm).length ≤ 2147483648) then 
              bif !numC 1 0 0 (p :: pm) then some (AEnd.ret [(AV.d Ty.str []).pr ((I 0).pr (AV.nils.pr (AV.d Ty.unit PUnit.unit))), I 4], [(0, AObj.arr 25 ((i64T).pair ((i64T).slice.pair ((i64T).slice.pair Ty.unit))) 0 false [(t, [a0], x, PUnit.unit)]), (1, AObj.arr 37 (Ty.str.pair ((i64T).pair ((i64T).pair ((i64T).pair (Ty.str.pair (((i64T).pair ((i64T).slice.pair ((i64T).slice.pair Ty.unit))).pair ((i64T).slice.pair Ty.unit))))))) 0 true [([112, 101, 114, 109], 7, 0, 0, [], (0, [], [], PUnit.unit), p :: pm, PUnit.unit)]), (2, AObj.arr 9 Ty.str 0 false [[120]])])
              else none
            else none
          else 
            bif decide ((p :: pm).length ≤ 2147483648) then 
              bif !numC 1 0 0 (p :: pm) then some (AEnd.ret [(AV.d Ty.str []).pr ((I 0).pr (AV.nils.pr (AV.d Ty.unit PUnit.unit))), I 4], [(0, AObj.arr 25 ((i64T).pair ((i64T).slice.pair ((i64T).slice.pair Ty.unit))) 0 false [(t, [a0], x, PUnit.unit)]), (1, AObj.arr 37 (Ty.str.pair ((i64T).pair ((i64T).pair ((i64T).pair (Ty.str.pair (((i64T).pair ((i64T).slice.pair ((i64T).slice.pair Ty.unit))).pair ((i64T).slice.pair Ty.unit))))))) 0 true [([112, 101, 114, 109], 7, 0, 0, [], (0, [], [], PUnit.unit), p :: pm, PUnit.unit)]), (2, AObj.arr 9 Ty.str 0 false [[120]])])
              else none
            else none
  else none := by kernel_rfl
theorem mn2_eq (t a0 a1 p : Int) (pm x : List Int) : runC gBn Tryz.f42 6 [(3, [2, 4, 6, 9, 10, 11])] [nodeA strTR [] [121] (.os 2 0) (.os 1 0), .os 0 0] (hpTb false t [a0, a1] x [lattr strPerm (p :: pm)]) ah =
  bif decide (2 ≤ 9223372036854775807 ∧ x.length ≤ 9223372036854775807) then 
    bif tenE t [a0, a1] x != 0 then some (AEnd.ret [(AV.d Ty.str []).pr ((I 0).pr (AV.nils.pr (AV.d Ty.unit PUnit.unit))), I 1], [(0, AObj.arr 25 ((i64T).pair ((i64T).slice.pair ((i64T).slice.pair Ty.unit))) 0 false [(t, [a0, a1], x, PUnit.unit)]), (1, AObj.arr 37 (Ty.str.pair ((i64T).pair ((i64T).pair ((i64T).pair (Ty.str.pair (((i64T).pair ((i64T).slice.pair ((i64T).slice.pair Ty.unit))).pair ((i64T).slice.pair Ty.unit))))))) 0 false [([112, 101, 114, 109], 7, 0, 0, [], (0, [], [], PUnit.unit), p :: pm, PUnit.unit)]), (2, AObj.arr 9 Ty.str 0 false [[120]])])
    else 
      bif !numOk t 0 then some (AEnd.ret [(AV.d Ty.str []).pr ((I 0).pr (AV.nils.pr (AV.d Ty.unit PUnit.unit))), I 5], [(0, AObj.arr 25 ((i64T).pair ((i64T).slice.pair ((i64T).slice.pair Ty.unit))) 0 false [(t, [a0, a1], x, PUnit.unit)]), (1, AObj.arr 37 (Ty.str.pair ((i64T).pair ((i64T).pair ((i64T).pair (Ty.str.pair (((i64T).pair ((i64T).slice.pair ((i64T).slice.pair Ty.unit))).pair ((i64T).slice.pair Ty.unit))))))) 0 true [([112, 101, 114, 109], 7, 0, 0, [], (0, [], [], PUnit.unit), p :: pm, PUnit.unit)]), (2, AObj.arr 9 Ty.str 0 false [[120]])])
      else 
        bif countE [a0, a1] != 0 then some (AEnd.ret [(AV.d Ty.str []).pr ((I 0).pr (AV.nils.pr (AV.d Ty.unit PUnit.unit))), I (countE [a0, a1])], [(0, AObj.arr 25 ((i64T).pair ((i64T).slice.pair ((i64T).slice.pair Ty.unit))) 0 false [(t, [a0, a1], x, PUnit.unit)]), (1, AObj.arr 37 (Ty.str.pair ((i64T).pair ((i64T).pair ((i64T).pair (Ty.str.pair (((i64T).pair ((i64T).slice.pair ((i64T).slice.pair Ty.unit))).pair ((i64T).slice.pair Ty.unit))))))) 0 true [([112, 101, 114, 109], 7, 0, 0, [], (0, [], [], PUnit.unit), p :: pm, PUnit.unit)]), (2, AObj.arr 9 Ty.str 0 false [[120]])])
        else 
          bif t == 6 then 
            bif decide ((p :: pm).length ≤ 2147483648) then 
              bif !numC 2 0 1 (p :: pm) then some (AEnd.ret [(AV.d Ty.str []).pr ((I 0).pr (AV.nils.pr (AV.d Ty.unit PUnit.unit))), I 4], [(0, AObj.arr 25 ((i64T).pair ((i64T).slice.pair ((i64T).slice.pair Ty.unit))) 0 false [(t, [a0, a1], x, PUnit.unit)]), (1, AObj.arr 37 (Ty.str.pair ((i64T).pair ((i64T).pair ((i64T).pair (Ty.str.pair (((i64T).pair ((i64T).slice.pair ((i64T).slice.pair Ty.unit))).pair ((i64T).slice.pair Ty.unit))))))) 0 true [([112, 101, 114, 109], 7, 0, 0, [], (0, [], [], PUnit.unit), p :: pm, PUnit.unit)]), (2, AObj.arr 9 Ty.str 0 false [[120]])])
              else none
            else none
          else 
            bif decide ((p :: pm).length ≤ 2147483648) then 
              bif !numC 2 0 1 (p :: pm) then some (AEnd.ret [(AV.d Ty.str []).pr ((I 0).pr (AV.nils.pr (AV.d Ty.unit PUnit.unit))), I 4], [(0, AObj.arr 25 ((i64T).pair ((i64T).slice.pair ((i64T).slice.pair Ty.unit))) 0 false [(t, [a0, a1], x, PUnit.unit)]), (1, AObj.arr 37 (Ty.str.pair ((i64T).pair ((i64T).pair ((i64T).pair (Ty.str.pair (((i64T).pair ((i64T).slice.pair ((i64T).slice.pair Ty.unit))).pair ((i64T).slice.pair Ty.unit))))))) 0 true [([112, 101, 114, 109], 7, 0, 0, [], (0, [], [], PUnit.unit), p :: pm, PUnit.unit)]), (2, AObj.arr 9 Ty.str 0 false [[120]])])
              else none
            else none
  else none := by kernel_rfl
theorem mn3_eq (t a0 a1 a2 p : Int) (pm x : List Int) : runC gBn Tryz.f42 6 [(3, [2, 4, 6, 9, 10, 11])] [nodeA strTR [] [121] (.os 2 0) (.os 1 0), .os 0 0] (hpTb false t [a0, a1, a2] x [lattr strPerm (p :: pm)]) ah =
  bif decide (3 ≤ 9223372036854775807 ∧ x.length ≤ 9223372036854775807) then 
    bif tenE t [a0, a1, a2] x != 0 then some (AEnd.ret [(AV.d Ty.str []).pr ((I 0).pr (AV.nils.pr (AV.d Ty.unit PUnit.unit))), I 1], [(0, AObj.arr 25 ((i64T).pair ((i64T).slice.pair ((i64T).slice.pair Ty.unit))) 0 false [(t, [a0, a1, a2], x, PUnit.unit)]), (1, AObj.arr 37 (Ty.str.pair ((i64T).pair ((i64T).pair ((i64T).pair (Ty.str.pair (((i64T).pair ((i64T).slice.pair ((i64T).slice.pair Ty.unit))).pair ((i64T).slice.pair Ty.unit))))))) 0 false [([112, 101, 114, 109], 7, 0, 0, [], (0, [], [], PUnit.unit), p :: pm, PUnit.unit)]), (2, AObj.arr 9 Ty.str 0 false [[120]])])
    else 
      bif !numOk t 0 then some (AEnd.ret [(AV.d Ty.str []).pr ((I 0).pr (AV.nils.pr (AV.d Ty.unit PUnit.unit))), I 5], [(0, AObj.arr 25 ((i64T).pair ((i64T).slice.pair ((i64T).slice.pair Ty.unit))) 0 false [(t, [a0, a1, a2], x, PUnit.unit)]), (1, AObj.arr 37 (Ty.str.pair ((i64T).pair ((i64T).pair ((i64T).pair (Ty.str.pair (((i64T).pair ((i64T).slice.pair ((i64T).slice.pair Ty.unit))).pair ((i64T).slice.pair Ty.unit))))))) 0 true [([112, 101, 114, 109], 7, 0, 0, [], (0, [], [], PUnit.unit), p :: pm, PUnit.unit)]), (2, AObj.arr 9 Ty.str 0 false [[120]])])
      else 
        bif countE [a0, a1, a2] != 0 then some (AEnd.ret [(AV.d Ty.str []).pr ((I 0).pr (AV.nils.pr (AV.d Ty.unit PUnit.unit))), I (countE [a0, a1, a2])], [(0, AObj.arr 25 ((i64T).pair ((i64T).slice.pair ((i64T).slice.pair Ty.unit))) 0 false [(t, [a0, a1, a2], x, PUnit.unit)]), (1, AObj.arr 37 (Ty.str.pair ((i64T).pair ((i64T).pair ((i64T).pair (Ty.str.pair (((i64T).pair ((i64T).slice.pair ((i64T).slice.pair Ty.unit))).pair ((i64T).slice.pair Ty.unit))))))) 0 true [([112, 101, 114, 109], 7, 0, 0, [], (0, [], [], PUnit.unit), p :: pm, PUnit.unit)]), (2, AObj.arr 9 Ty.str 0 false [[120]])])
        else 
          bif t == 6 then 
            bif decide ((p :: pm).length ≤ 2147483648) then 
              bif !numC 3 0 2 (p :: pm) then some (AEnd.ret [(AV.d Ty.str []).pr ((I 0).pr (AV.nils.pr (AV.d Ty.unit PUnit.unit))), I 4], [(0, AObj.arr 25 ((i64T).pair ((i64T).slice.pair ((i64T).slice.pair Ty.unit))) 0 false [(t, [a0, a1, a2], x, PUnit.unit)]), (1, AObj.arr 37 (Ty.str.pair ((i64T).pair ((i64T).pair ((i64T).pair (Ty.str.pair (((i64T).pair ((i64T).slice.pair ((i64T).slice.pair Ty.unit))).pair ((i64T).slice.pair Ty.unit))))))) 0 true [([112, 101, 114, 109], 7, 0, 0, [], (0, [], [], PUnit.unit), p :: pm, PUnit.unit)]), (2, AObj.arr 9 Ty.str 0 false [[120]])])
              else none
            else none
          else 
            bif decide ((p :: pm).length ≤ 2147483648) then 
              bif !numC 3 0 2 (p :: pm) then some (AEnd.ret [(AV.d Ty.str []).pr ((I 0).pr (AV.nils.pr (AV.d Ty.unit PUnit.unit))), I 4], [(0, AObj.arr 25 ((i64T).pair ((i64T).slice.pair ((i64T).slice.pair Ty.unit))) 0 false [(t, [a0, a1, a2], x, PUnit.unit)]), (1, AObj.arr 37 (Ty.str.pair ((i64T).pair ((i64T).pair ((i64T).pair (Ty.str.pair (((i64T).pair ((i64T).slice.pair ((i64T).slice.pair Ty.unit))).pair ((i64T).slice.pair Ty.unit))))))) 0 true [([112, 101, 114, 109], 7, 0, 0, [], (0, [], [], PUnit.unit), p :: pm, PUnit.unit)]), (2, AObj.arr 9 Ty.str 0 false [[120]])])
              else none
            else none
  else none := by kernel_rfl
theorem mn4_eq (t a0 a1 a2 a3 p : Int) (pm x : List Int) : runC gBn Tryz.f42 6 [(3, [2, 4, 6, 9, 10, 11])] [nodeA strTR [] [121] (.os 2 0) (.os 1 0), .os 0 0] (hpTb false t [a0, a1, a2, a3] x [lattr strPerm (p :: pm)]) ah =
  bif decide (4 ≤ 9223372036854775807 ∧ x.length ≤ 9223372036854775807) then 
    bif tenE t [a0, a1, a2, a3] x != 0 then some (AEnd.ret [(AV.d Ty.str []).pr ((I 0).pr (AV.nils.pr (AV.d Ty.unit PUnit.unit))), I 1], [(0, AObj.arr 25 ((i64T).pair ((i64T).slice.pair ((i64T).slice.pair Ty.unit))) 0 false [(t, [a0, a1, a2, a3], x, PUnit.unit)]), (1, AObj.arr 37 (Ty.str.pair ((i64T).pair ((i64T).pair ((i64T).pair (Ty.str.pair (((i64T).pair ((i64T).slice.pair ((i64T).slice.pair Ty.unit))).pair ((i64T).slice.pair Ty.unit))))))) 0 false [([112, 101, 114, 109], 7, 0, 0, [], (0, [], [], PUnit.unit), p :: pm, PUnit.unit)]), (2, AObj.arr 9 Ty.str 0 false [[120]])])
    else 
      bif !numOk t 0 then some (AEnd.ret [(AV.d Ty.str []).pr ((I 0).pr (AV.nils.pr (AV.d Ty.unit PUnit.unit))), I 5], [(0, AObj.arr 25 ((i64T).pair ((i64T).slice.pair ((i64T).slice.pair Ty.unit))) 0 false [(t, [a0, a1, a2, a3], x, PUnit.unit)]), (1, AObj.arr 37 (Ty.str.pair ((i64T).pair ((i64T).pair ((i64T).pair (Ty.str.pair (((i64T).pair ((i64T).slice.pair ((i64T).slice.pair Ty.unit))).pair ((i64T).slice.pair Ty.unit))))))) 0 true [([112, 101, 114, 109], 7, 0, 0, [], (0, [], [], PUnit.unit), p :: pm, PUnit.unit)]), (2, AObj.arr 9 Ty.str 0 false [[120]])])
      else 
        bif countE [a0, a1, a2, a3] != 0 then some (AEnd.ret [(AV.d Ty.str []).pr ((I 0).pr (AV.nils.pr (AV.d Ty.unit PUnit.unit))), I (countE [a0, a1, a2, a3])], [(0, AObj.arr 25 ((i64T).pair ((i64T).slice.pair ((i64T).slice.pair Ty.unit))) 0 false [(t, [a0, a1, a2, a3], x, PUnit.unit)]), (1, AObj.arr 37 (Ty.str.pair ((i64T).pair ((i64T).pair ((i64T).pair (Ty.str.pair (((i64T).pair ((i64T).slice.pair ((i64T).slice.pair Ty.unit))).pair ((i64T).slice.pair Ty.unit))))))) 0 true [([112, 101, 114, 109], 7, 0, 0, [], (0, [], [], PUnit.unit), p :: pm, PUnit.unit)]), (2, AObj.arr 9 Ty.str 0 false [[120]])])
        else 
          bif t == 6 then 
            bif decide ((p :: pm).length ≤ 2147483648) then 
              bif !numC 4 0 3 (p :: pm) then some (AEnd.ret [(AV.d Ty.str []).pr ((I 0).pr (AV.nils.pr (AV.d Ty.unit PUnit.unit))), I 4], [(0, AObj.arr 25 ((i64T).pair ((i64T).slice.pair ((i64T).slice.pair Ty.unit))) 0 false [(t, [a0, a1, a2, a3], x, PUnit.unit)]), (1, AObj.arr 37 (Ty.str.pair ((i64T).pair ((i64T).pair ((i64T).pair (Ty.str.pair (((i64T).pair ((i64T).slice.pair ((i64T).slice.pair Ty.unit))).pair ((i64T).slice.pair Ty.unit))))))) 0 true [([112, 101, 114, 109], 7, 0, 0, [], (0, [], [], PUnit.unit), p :: pm, PUnit.unit)]), (2, AObj.arr 9 Ty.str 0 false [[120]])])
              else none
            else none
          else 
            bif decide ((p :: pm).length ≤ 2147483648) then 
              bif !numC 4 0 3 (p :: pm) then some (AEnd.ret [(AV.d Ty.str []).pr ((I 0).pr (AV.nils.pr (AV.d Ty.unit PUnit.unit))), I 4], [(0, AObj.arr 25 ((i64T).pair ((i64T).slice.pair ((i64T).slice.pair Ty.unit))) 0 false [(t, [a0, a1, a2, a3], x, PUnit.unit)]), (1, AObj.arr 37 (Ty.str.pair ((i64T).pair ((i64T).pair ((i64T).pair (Ty.str.pair (((i64T).pair ((i64T).slice.pair ((i64T).slice.pair Ty.unit))).pair ((i64T).slice.pair Ty.unit))))))) 0 true [([112, 101, 114, 109], 7, 0, 0, [], (0, [], [], PUnit.unit), p :: pm, PUnit.unit)]), (2, AObj.arr 9 Ty.str 0 false [[120]])])
              else none
            else none
  else none := by kernel_rfl
theorem mn5_eq (t a0 a1 a2 a3 a4 p : Int) (pm x : List Int) : runC gBn Tryz.f42 6 [(3, [2, 4, 6, 9, 10, 11])] [nodeA strTR [] [121] (.os 2 0) (.os 1 0), .os 0 0] (hpTb false t [a0, a1, a2, a3, a4] x [lattr strPerm (p :: pm)]) ah =
  bif decide (5 ≤ 9223372036854775807 ∧ x.length ≤ 9223372036854775807) then 
    bif tenE t [a0, a1, a2, a3, a4] x != 0 then some (AEnd.ret [(AV.d Ty.str []).pr ((I 0).pr (AV.nils.pr (AV.d Ty.unit PUnit.unit))), I 1], [(0, AObj.arr 25 ((i64T).pair ((i64T).slice.pair ((i64T).slice.pair Ty.unit))) 0 false [(t, [a0, a1, a2, a3, a4], x, PUnit.unit)]), (1, AObj.arr 37 (Ty.str.pair ((i64T).pair ((i64T).pair ((i64T).pair (Ty.str.pair (((i64T).pair ((i64T).slice.pair ((i64T).slice.pair Ty.unit))).pair ((i64T).slice.pair Ty.unit))))))) 0 false [([112, 101, 114, 109], 7, 0, 0, [], (0, [], [], PUnit.unit), p :: pm, PUnit.unit)]), (2, AObj.arr 9 Ty.str 0 false [[120]])])
    else 
      bif !numOk t 0 then some (AEnd.ret [(AV.d Ty.str []).pr ((I 0).pr (AV.nils.pr (AV.d Ty.unit PUnit.unit))), I 5], [(0, AObj.arr 25 ((i64T).pair ((i64T).slice.pair ((i64T).slice.pair Ty.unit))) 0 false [(t, [a0, a1, a2, a3, a4], x, PUnit.unit)]), (1, AObj.arr 37 (Ty.str.pair ((i64T).pair ((i64T).pair ((i64T).pair (Ty.str.pair (((i64T).pair ((i64T).slice.pair ((i64T).slice.pair Ty.unit))).pair ((i64T).slice.pair Ty.unit))))))) 0 true [([112, 101, 114, 109], 7, 0, 0, [], (0, [], [], PUnit.unit), p :: pm, PUnit.unit)]), (2, AObj.arr 9 Ty.str 0 false [[120]])])
      else 
        bif countE [a0, a1, a2, a3, a4] != 0 then some (AEnd.ret [(AV.d Ty.str []).pr ((I 0).pr (AV.nils.pr (AV.d Ty.unit PUnit.unit))), I (countE [a0, a1, a2, a3, a4])], [(0, AObj.arr 25 ((i64T).pair ((i64T).slice.pair ((i64T).slice.pair Ty.unit))) 0 false [(t, [a0, a1, a2, a3, a4], x, PUnit.unit)]), (1, AObj.arr 37 (Ty.str.pair ((i64T).pair ((i64T).pair ((i64T).pair (Ty.str.pair (((i64T).pair ((i64T).slice.pair ((i64T).slice.pair Ty.unit))).pair ((i64T).slice.pair Ty.unit))))))) 0 true [([112, 101, 114, 109], 7, 0, 0, [], (0, [], [], PUnit.unit), p :: pm, PUnit.unit)]), (2, AObj.arr 9 Ty.str 0 false [[120]])])
        else 
          bif t == 6 then 
            bif decide ((p :: pm).length ≤ 2147483648) then 
              bif !numC 5 0 4 (p :: pm) then some (AEnd.ret [(AV.d Ty.str []).pr ((I 0).pr (AV.nils.pr (AV.d Ty.unit PUnit.unit))), I 4], [(0, AObj.arr 25 ((i64T).pair ((i64T).slice.pair ((i64T).slice.pair Ty.unit))) 0 false [(t, [a0, a1, a2, a3, a4], x, PUnit.unit)]), (1, AObj.arr 37 (Ty.str.pair ((i64T).pair ((i64T).pair ((i64T).pair (Ty.str.pair (((i64T).pair ((i64T).slice.pair ((i64T).slice.pair Ty.unit))).pair ((i64T).slice.pair Ty.unit))))))) 0 true [([112, 101, 114, 109], 7, 0, 0, [], (0, [], [], PUnit.unit), p :: pm, PUnit.unit)]), (2, AObj.arr 9 Ty.str 0 false [[120]])])
              else none
            else none
          else 
            bif decide ((p :: pm).length ≤ 2147483648) then 
              bif !numC 5 0 4 (p :: pm) then some (AEnd.ret [(AV.d Ty.str []).pr ((I 0).pr (AV.nils.pr (AV.d Ty.unit PUnit.unit))), I 4], [(0, AObj.arr 25 ((i64T).pair ((i64T).slice.pair ((i64T).slice.pair Ty.unit))) 0 false [(t, [a0, a1, a2, a3, a4], x, PUnit.unit)]), (1, AObj.arr 37 (Ty.str.pair ((i64T).pair ((i64T).pair ((i64T).pair (Ty.str.pair (((i64T).pair ((i64T).slice.pair ((i64T).slice.pair Ty.unit))).pair ((i64T).slice.pair Ty.unit))))))) 0 true [([112, 101, 114, 109], 7, 0, 0, [], (0, [], [], PUnit.unit), p :: pm, PUnit.unit)]), (2, AObj.arr 9 Ty.str 0 false [[120]])])
              else none
            else none
  else none := by kernel_rfl
theorem mn6_eq (t a0 a1 a2 a3 a4 a5 p : Int) (pm x : List Int) : runC gBn Tryz.f42 6 [(3, [2, 4, 6, 9, 10, 11])] [nodeA strTR [] [121] (.os 2 0) (.os 1 0), .os 0 0] (hpTb false t [a0, a1, a2, a3, a4, a5] x [lattr strPerm (p :: pm)]) ah =
  bif decide (6 ≤ 9223372036854775807 ∧ x.length ≤ 9223372036854775807) then 
    bif tenE t [a0, a1, a2, a3, a4, a5] x != 0 then some (AEnd.ret [(AV.d Ty.str []).pr ((I 0).pr (AV.nils.pr (AV.d Ty.unit PUnit.unit))), I 1], [(0, AObj.arr 25 ((i64T).pair ((i64T).slice.pair ((i64T).slice.pair Ty.unit))) 0 false [(t, [a0, a1, a2, a3, a4, a5], x, PUnit.unit)]), (1, AObj.arr 37 (Ty.str.pair ((i64T).pair ((i64T).pair ((i64T).pair (Ty.str.pair (((i64T).pair ((i64T).slice.pair ((i64T).slice.pair Ty.unit))).pair ((i64T).slice.pair Ty.unit))))))) 0 false [([112, 101, 114, 109], 7, 0, 0, [], (0, [], [], PUnit.unit), p :: pm, PUnit.unit)]), (2, AObj.arr 9 Ty.str 0 false [[120]])])
    else 
      bif !numOk t 0 then some (AEnd.ret [(AV.d Ty.str []).pr ((I 0).pr (AV.nils.pr (AV.d Ty.unit PUnit.unit))), I 5], [(0, AObj.arr 25 ((i64T).pair ((i64T).slice.pair ((i64T).slice.pair Ty.unit))) 0 false [(t, [a0, a1, a2, a3, a4, a5], x, PUnit.unit)]), (1, AObj.arr 37 (Ty.str.pair ((i64T).pair ((i64T).pair ((i64T).pair (Ty.str.pair (((i64T).pair ((i64T).slice.pair ((i64T).slice.pair Ty.unit))).pair ((i64T).slice.pair Ty.unit))))))) 0 true [([112, 101, 114, 109], 7, 0, 0, [], (0, [], [], PUnit.unit), p :: pm, PUnit.unit)]), (2, AObj.arr 9 Ty.str 0 false [[120]])])
      else 
        bif countE [a0, a1, a2, a3, a4, a5] != 0 then some (AEnd.ret [(AV.d Ty.str []).pr ((I 0).pr (AV.nils.pr (AV.d Ty.unit PUnit.unit))), I (countE [a0, a1, a2, a3, a4, a5])], [(0, AObj.arr 25 ((i64T).pair ((i64T).slice.pair ((i64T).slice.pair Ty.unit))) 0 false [(t, [a0, a1, a2, a3, a4, a5], x, PUnit.unit)]), (1, AObj.arr 37 (Ty.str.pair ((i64T).pair ((i64T).pair ((i64T).pair (Ty.str.pair (((i64T).pair ((i64T).slice.pair ((i64T).slice.pair Ty.unit))).pair ((i64T).slice.pair Ty.unit))))))) 0 true [([112, 101, 114, 109], 7, 0, 0, [], (0, [], [], PUnit.unit), p :: pm, PUnit.unit)]), (2, AObj.arr 9 Ty.str 0 false [[120]])])
        else 
          bif t == 6 then 
            bif decide ((p :: pm).length ≤ 2147483648) then 
              bif !numC 6 0 5 (p :: pm) then some (AEnd.ret [(AV.d Ty.str []).pr ((I 0).pr (AV.nils.pr (AV.d Ty.unit PUnit.unit))), I 4], [(0, AObj.arr 25 ((i64T).pair ((i64T).slice.pair ((i64T).slice.pair Ty.unit))) 0 false [(t, [a0, a1, a2, a3, a4, a5], x, PUnit.unit)]), (1, AObj.arr 37 (Ty.str.pair ((i64T).pair ((i64T).pair ((i64T).pair (Ty.str.pair (((i64T).pair ((i64T).slice.pair ((i64T).slice.pair Ty.unit))).pair ((i64T).slice.pair Ty.unit))))))) 0 true [([112, 101, 114, 109], 7, 0, 0, [], (0, [], [], PUnit.unit), p :: pm, PUnit.unit)]), (2, AObj.arr 9 Ty.str 0 false [[120]])])
              else none
            else none
          else 
            bif decide ((p :: pm).length ≤ 2147483648) then 
              bif !numC 6 0 5 (p :: pm) then some (AEnd.ret [(AV.d Ty.str []).pr ((I 0).pr (AV.nils.pr (AV.d Ty.unit PUnit.unit))), I 4], [(0, AObj.arr 25 ((i64T).pair ((i64T).slice.pair ((i64T).slice.pair Ty.unit))) 0 false [(t, [a0, a1, a2, a3, a4, a5], x, PUnit.unit)]), (1, AObj.arr 37 (Ty.str.pair ((i64T).pair ((i64T).pair ((i64T).pair (Ty.str.pair (((i64T).pair ((i64T).slice.pair ((i64T).slice.pair Ty.unit))).pair ((i64T).slice.pair Ty.unit))))))) 0 true [([112, 101, 114, 109], 7, 0, 0, [], (0, [], [], PUnit.unit), p :: pm, PUnit.unit)]), (2, AObj.arr 9 Ty.str 0 false [[120]])])
              else none
            else none
  else none := by kernel_rfl
end Go.Proofs.XGT
namespace Go.Proofs.XGT
open Go.Vm Go
set_option maxRecDepth 100000
set_option maxHeartbeats 1000000
/-- the strides of dims, row by row -/
def strN : List Nat → List Nat
  | [] => []
  | _ :: r => prodN r :: strN r
theorem strN_len : ∀ (ds : List Nat), (strN ds).length = ds.length
  | [] => rfl
  | _ :: r => by simp only [strN, List.length_cons, strN_len r]
def strI (d : List Int) : List Int := ints (strN (d.map Int.toNat))
theorem nat_dims {d : List Int} (h : countE d = 0) : ∃ D : List Nat, d = ints D ∧ D = d.map Int.toNat ∧ (∀ x ∈ D, 1 ≤ x) ∧ prodN D ≤ 65536 ∧ D.length ≤ 6 := by
  obtain ⟨p1, p2, p3, _⟩ := count_ok h
  have ed : ints (d.map Int.toNat) = d := ints_nat fun x hx => by have := p1 x hx; omega
  refine ⟨d.map Int.toNat, ed.symm, rfl, fun x hx => ?_, ?_, by rw [List.length_map]; exact p2⟩
  · obtain ⟨y, hy, rfl⟩ := List.mem_map.1 hx
    have := p1 y hy
    omega
  · have e := prodI_ints (d.map Int.toNat)
    rw [ed] at e
    omega
end Go.Proofs.XGT
namespace Go.Proofs.XGT
open Go.Vm Go
set_option maxRecDepth 100000
set_option maxHeartbeats 1000000
/-- places inside dims -/
def inb : List Nat → List Nat → Prop
  | [], [] => True
  | c :: r, d :: t => c < d ∧ inb r t
  | _, _ => False
theorem inb_len : ∀ {c d : List Nat}, inb c d → c.length = d.length
  | [], [], _ => rfl
  | _ :: _, _ :: _, h => by simp only [List.length_cons, inb_len h.2]
  | [], _ :: _, h => h.elim
  | _ :: _, [], h => h.elim
theorem inb_dig : ∀ {ds : List Nat} {q : Nat}, q < prodN ds → inb (dig ds q) ds
  | [], _, _ => trivial
  | d :: r, q, h => by
    have h : q < d * prodN r := h
    have hP : 0 < prodN r := by
      rcases Nat.eq_zero_or_pos (prodN r) with h0 | h0
      · rw [h0, Nat.mul_zero] at h; omega
      · exact h0
    exact ⟨Nat.div_lt_of_lt_mul (by rw [Nat.mul_comm]; exact h), inb_dig (Nat.mod_lt _ hP)⟩
theorem dot_dig : ∀ {ds : List Nat} {q : Nat}, q < prodN ds → dot (dig ds q) (strN ds) = q
  | [], q, h => by have h : q < 1 := h; show 0 = q; omega
  | d :: r, q, h => by
    have h : q < d * prodN r := h
    have hP : 0 < prodN r := by
      rcases Nat.eq_zero_or_pos (prodN r) with h0 | h0
      · rw [h0, Nat.mul_zero] at h; omega
      · exact h0
    show q / prodN r * prodN r + dot (dig r (q % prodN r)) (strN r) = q
    rw [dot_dig (Nat.mod_lt _ hP), Nat.mul_comm]
    exact Nat.div_add_mod _ _
theorem dot_lt : ∀ {c ds : List Nat}, inb c ds → dot c (strN ds) < prodN ds
  | [], [], _ => Nat.zero_lt_one
  | c :: r, d :: t, h => by
    have h2 := dot_lt h.2
    have h3 : (c + 1) * prodN t ≤ d * prodN t := Nat.mul_le_mul_right _ h.1
    rw [Nat.add_mul, Nat.one_mul] at h3
    show c * prodN t + dot r (strN t) < d * prodN t
    omega
  | [], _ :: _, h => h.elim
  | _ :: _, [], h => h.elim
theorem dig_dot : ∀ {c ds : List Nat}, inb c ds → dig ds (dot c (strN ds)) = c
  | [], [], _ => rfl
  | c :: r, d :: t, h => by
    have h2 := dot_lt h.2
    have h3 := dig_dot h.2
    show (c * prodN t + dot r (strN t)) / prodN t :: dig t ((c * prodN t + dot r (strN t)) % prodN t) = c :: r
    have hP : 0 < prodN t := by omega
    have e1 : (c * prodN t + dot r (strN t)) / prodN t = c := by
      rw [Nat.mul_comm, Nat.mul_add_div hP, Nat.div_eq_of_lt h2, Nat.add_zero]
    have e2 : (c * prodN t + dot r (strN t)) % prodN t = dot r (strN t) := by
      rw [Nat.mul_comm, Nat.mul_add_mod, Nat.mod_eq_of_lt h2]
    rw [e1, e2, h3]
  | [], _ :: _, h => h.elim
  | _ :: _, [], h => h.elim
theorem nodup_le : ∀ (N : Nat) {l : List Nat}, l.Nodup → (∀ x ∈ l, x < N) → l.length ≤ N
  | 0, [], _, _ => Nat.le_refl _
  | 0, x :: _, _, h => absurd (h x (by simp)) (Nat.not_lt_zero _)
  | N + 1, l, hd, h => by
    by_cases hm : N ∈ l
    · have h1 := nodup_le N (l := l.erase N) (hd.erase N) fun x hx => by
        have := h x (List.mem_of_mem_erase hx)
        have hne : x ≠ N := ((hd.mem_erase_iff).1 hx).1
        omega
      rw [List.length_erase_of_mem hm] at h1
      omega
    · have h1 := nodup_le N hd fun x hx => by
        have := h x hx
        have hne : x ≠ N := fun e => hm (e ▸ hx)
        omega
      omega
theorem nodup_perm : ∀ (N : Nat) {l : List Nat}, l.Nodup → (∀ x ∈ l, x < N) → l.length = N → l.Perm (List.range N)
  | 0, [], _, _, _ => List.Perm.nil
  | N + 1, l, hd, h, hl => by
    have hm : N ∈ l := by
      rcases Classical.em (N ∈ l) with hm | hm
      · exact hm
      · have h1 := nodup_le N hd fun x hx => by
          have := h x hx
          have hne : x ≠ N := fun e => hm (e ▸ hx)
          omega
        omega
    have h1 := nodup_perm N (l := l.erase N) (hd.erase N) (fun x hx => by
      have := h x (List.mem_of_mem_erase hx)
      have hne : x ≠ N := ((hd.mem_erase_iff).1 hx).1
      omega) (by rw [List.length_erase_of_mem hm]; omega)
    rw [List.range_succ]
    exact (List.perm_cons_erase hm).trans ((h1.cons N).trans (List.perm_append_singleton N (List.range N)).symm)
/-- xs by the order l -/
def pmN (xs l : List Nat) : List Nat := l.map fun p => xs.getD p 0
theorem pmN_len (xs l : List Nat) : (pmN xs l).length = l.length := List.length_map _
theorem getD_map {f : Nat → Nat} {l : List Nat} {j : Nat} (h : j < l.length) : (l.map f).getD j 0 = f (l.getD j 0) := by
  rw [List.getD_eq_getElem?_getD, List.getD_eq_getElem?_getD, List.getElem?_map, List.getElem?_eq_getElem h]
  rfl
theorem range_getD (xs : List Nat) : (List.range xs.length).map (fun k => xs.getD k 0) = xs := by
  apply List.ext_getElem?
  intro m
  by_cases h : m < xs.length
  · rw [List.getElem?_map, List.getElem?_range h, Option.map_some, List.getD_eq_getElem?_getD, List.getElem?_eq_getElem h]
    rfl
  · rw [List.getElem?_eq_none (by rw [List.length_map, List.length_range]; omega), List.getElem?_eq_none (by omega)]
theorem pmN_perm {xs l : List Nat} (h : l.Perm (List.range xs.length)) : (pmN xs l).Perm xs := by
  have := h.map (fun k => xs.getD k 0)
  rw [range_getD] at this
  exact this
theorem prodN_perm {a b : List Nat} (h : a.Perm b) : prodN a = prodN b := by
  induction h with
  | nil => rfl
  | cons x _ ih => show x * _ = x * _; rw [ih]
  | swap x y l => show y * (x * _) = x * (y * _); rw [← Nat.mul_assoc, ← Nat.mul_assoc, Nat.mul_comm x y]
  | trans _ _ h1 h2 => exact h1.trans h2
theorem dot_sum : ∀ (l : List Nat) (f g : Nat → Nat), dot (l.map f) (l.map g) = (l.map fun j => f j * g j).sum
  | [], _, _ => rfl
  | a :: r, f, g => by
    show f a * g a + dot (r.map f) (r.map g) = _
    rw [dot_sum r f g, List.map_cons, List.sum_cons]
theorem dot_pm {c s l : List Nat} (hs : s.length = c.length) (h : l.Perm (List.range c.length)) : dot (pmN c l) (pmN s l) = dot c s := by
  have h1 : dot ((List.range c.length).map fun k => c.getD k 0) ((List.range c.length).map fun k => s.getD k 0) = dot c s := by
    rw [range_getD, ← hs, range_getD]
  unfold pmN
  rw [dot_sum, (h.map _).sum_nat, ← dot_sum, h1]
/-- back leads back: l then back is nothing, back then l is nothing -/
structure Opp (l back : List Nat) : Prop where
  len : back.length = l.length
  one : ∀ j, j < l.length → back.getD (l.getD j 0) 0 = j
  lt : ∀ j, j < l.length → l.getD j 0 < l.length
  pm : l.Perm (List.range l.length)
theorem Opp.two {l back : List Nat} (h : Opp l back) : ∀ k, k < l.length → l.getD (back.getD k 0) 0 = k := by
  intro k hk
  have hm : k ∈ l := h.pm.symm.subset (List.mem_range.2 hk)
  obtain ⟨j, hj, rfl⟩ := List.mem_iff_getElem.1 hm
  have e : l[j] = l.getD j 0 := by rw [List.getD_eq_getElem?_getD, List.getElem?_eq_getElem hj]; rfl
  rw [e, h.one j hj]
theorem Opp.lt2 {l back : List Nat} (h : Opp l back) : ∀ k, k < l.length → back.getD k 0 < l.length := by
  intro k hk
  have hm : k ∈ l := h.pm.symm.subset (List.mem_range.2 hk)
  obtain ⟨j, hj, rfl⟩ := List.mem_iff_getElem.1 hm
  have e : l[j] = l.getD j 0 := by rw [List.getD_eq_getElem?_getD, List.getElem?_eq_getElem hj]; rfl
  rw [e, h.one j hj]
  exact hj
theorem Opp.pm2 {l back : List Nat} (h : Opp l back) : back.Perm (List.range l.length) := by
  refine nodup_perm l.length ?_ (fun x hx => ?_) h.len
  · refine List.pairwise_iff_getElem.2 fun i j hi hj hij e => ?_
    have e1 : back[i] = back.getD i 0 := by rw [List.getD_eq_getElem?_getD, List.getElem?_eq_getElem hi]; rfl
    have e2 : back[j] = back.getD j 0 := by rw [List.getD_eq_getElem?_getD, List.getElem?_eq_getElem hj]; rfl
    rw [e1, e2] at e
    rw [h.len] at hi hj
    have h1 := h.two i hi
    have h2 := h.two j hj
    rw [e, h2] at h1
    omega
  · obtain ⟨k, hk, rfl⟩ := List.mem_iff_getElem.1 hx
    have e : back[k] = back.getD k 0 := by rw [List.getD_eq_getElem?_getD, List.getElem?_eq_getElem hk]; rfl
    rw [e]
    exact h.lt2 k (by rw [← h.len]; exact hk)
theorem Opp.symm {l back : List Nat} (h : Opp l back) : Opp back l :=
  ⟨h.len.symm, fun j hj => h.two j (by rw [← h.len]; exact hj), fun j hj => by rw [h.len] at hj ⊢; exact h.lt2 j hj, by rw [h.len]; exact h.pm2⟩
theorem pm_pm {l back xs : List Nat} (h : Opp l back) (hx : xs.length = l.length) : pmN (pmN xs l) back = xs := by
  apply List.ext_getElem?
  intro k
  by_cases hk : k < l.length
  · have e : (pmN (pmN xs l) back)[k]? = some ((pmN (pmN xs l) back).getD k 0) := by
      rw [List.getD_eq_getElem?_getD, List.getElem?_eq_getElem (by rw [pmN_len, h.len]; exact hk)]
      rfl
    rw [e]
    unfold pmN
    rw [getD_map (by rw [h.len]; exact hk), getD_map (h.lt2 k hk), h.two k hk, List.getD_eq_getElem?_getD, List.getElem?_eq_getElem (by rw [hx]; exact hk)]
    rfl
  · rw [List.getElem?_eq_none (by rw [pmN_len, h.len]; omega), List.getElem?_eq_none (by omega)]
theorem inb_iff {c d : List Nat} : inb c d ↔ c.length = d.length ∧ ∀ k, k < d.length → c.getD k 0 < d.getD k 0 := by
  induction c generalizing d with
  | nil => cases d with
    | nil => exact ⟨fun _ => ⟨rfl, fun k hk => absurd hk (Nat.not_lt_zero _)⟩, fun _ => trivial⟩
    | cons _ _ => exact ⟨fun h => h.elim, fun h => absurd h.1 (by simp)⟩
  | cons a r ih => cases d with
    | nil => exact ⟨fun h => h.elim, fun h => absurd h.1 (by simp)⟩
    | cons b t =>
      constructor
      · intro h
        obtain ⟨h1, h2⟩ := ih.1 h.2
        refine ⟨by simp only [List.length_cons, h1], fun k hk => ?_⟩
        cases k with
        | zero => exact h.1
        | succ k => exact h2 k (by simp only [List.length_cons] at hk; omega)
      · intro h
        refine ⟨h.2 0 (by simp), ih.2 ⟨by have := h.1; simp only [List.length_cons] at this; omega, fun k hk => h.2 (k + 1) (by simp only [List.length_cons]; omega)⟩⟩
theorem inb_pm {l c d : List Nat} (h : inb c d) (hl : ∀ j, j < l.length → l.getD j 0 < d.length) : inb (pmN c l) (pmN d l) := by
  obtain ⟨_, h2⟩ := inb_iff.1 h
  refine inb_iff.2 ⟨by rw [pmN_len, pmN_len], fun k hk => ?_⟩
  rw [pmN_len] at hk
  unfold pmN
  rw [getD_map hk, getD_map hk]
  exact h2 _ (hl k hk)
/-- where the element at q of what is turned back stands in what was turned -/
theorem back_at {l back ds : List Nat} (h : Opp l back) (hd : ds.length = l.length) {q : Nat} (hq : q < prodN ds) :
    ∃ q', dot (dig ds q) (pmN (strN (pmN ds l)) back) = q' ∧ q' < prodN (pmN ds l) ∧ dot (dig (pmN ds l) q') (pmN (strN ds) l) = q := by
  have hi := inb_dig hq
  have hc : (dig ds q).length = l.length := (inb_len hi).trans hd
  have hi2 : inb (pmN (dig ds q) l) (pmN ds l) := inb_pm hi fun j hj => by rw [hd]; exact h.lt j hj
  have hs : (strN (pmN ds l)).length = l.length := by rw [strN_len, pmN_len]
  refine ⟨dot (pmN (dig ds q) l) (strN (pmN ds l)), ?_, dot_lt hi2, ?_⟩
  · rw [← dot_pm (l := l) (by rw [pmN_len, h.len, hc]) (by rw [hc]; exact h.pm), pm_pm h.symm (by rw [hs, h.len])]
  · rw [dig_dot hi2, dot_pm (by rw [strN_len, hd, hc]) (by rw [hc]; exact h.pm)]
    exact dot_dig hq
theorem turn_lt {l back ds : List Nat} (h : Opp l back) (hd : ds.length = l.length) {q : Nat} (hq : q < prodN (pmN ds l)) : dot (dig (pmN ds l) q) (pmN (strN ds) l) < prodN ds := by
  have hi := inb_dig hq
  have hc : (dig (pmN ds l) q).length = l.length := (inb_len hi).trans (pmN_len _ _)
  have hi2 : inb (pmN (dig (pmN ds l) q) back) ds := by
    have := inb_pm (l := back) hi fun j hj => by rw [pmN_len]; rw [h.len] at hj; exact h.lt2 j hj
    rw [pm_pm h hd] at this
    exact this
  have e : dot (dig (pmN ds l) q) (pmN (strN ds) l) = dot (pmN (dig (pmN ds l) q) back) (strN ds) := by
    have := dot_pm (c := pmN (dig (pmN ds l) q) back) (s := strN ds) (l := l) (by rw [strN_len, pmN_len, h.len, hd]) (by rw [pmN_len, h.len]; exact h.pm)
    rw [pm_pm h.symm (by rw [h.len, hc])] at this
    exact this
  rw [e]
  exact dot_lt hi2
end Go.Proofs.XGT
