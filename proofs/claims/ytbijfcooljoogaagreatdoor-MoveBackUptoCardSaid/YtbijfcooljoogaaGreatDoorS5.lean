/- view.Read of views of any rank, of numbers that came in, told. -/
import Derived.Test.YtbijfcooljoogaaGreatDoorS4
namespace Go.Proofs.XGT
open Go.Vm Go
set_option maxRecDepth 100000
set_option maxHeartbeats 1000000
theorem rbr_go (F : FnE) (off : Int) (ds ss l out : List Int) (h : ∀ (k : AEnd → LHp → Option (AEnd × LHp)), F.run [.ref 8, .op 0 [] 0] (hpYb off ds ss l .nils) k = k (.ret []) (hpYbW off ds ss l out)) :
    exC (gVr F) cf_reb (cL (cR (cL (cR (cR (cR C_reb)))))) ⟨frVb off l, hpVb off ds ss l, 12⟩ (RKr F) = some (.ret [.os 2 0, I 0], [(0, .arr 3 i64T 0 false ss), (1, .arr 3 i64T 0 false ds), (2, .arr 2 i64T 0 false out)]) := by
  rw [rbr_rf, h, rbr_fin]
theorem foldl_ints : ∀ (ds : List Nat) (a : Int), (ints ds).foldl (· * ·) a = a * (prodN ds : Nat)
  | [], a => by show a = a * ((1 : Nat) : Int); rw [Int.natCast_one, Int.mul_one]
  | d :: r, a => by
    show (ints r).foldl (· * ·) (a * (d : Int)) = a * ((d * prodN r : Nat) : Int)
    rw [foldl_ints r, Int.mul_assoc, Int.natCast_mul]
theorem prodI_ints (ds : List Nat) : prodI (ints ds) = (prodN ds : Nat) := by
  unfold prodI
  rw [foldl_ints, Int.one_mul]
theorem ints_nat : ∀ {xs : List Int}, (∀ x ∈ xs, 0 ≤ x) → ints (xs.map Int.toNat) = xs
  | [], _ => rfl
  | x :: r, h => by
    show ((x.toNat : Nat) : Int) :: ints (r.map Int.toNat) = x :: r
    rw [ints_nat fun y hy => h y (by simp [hy]), Int.toNat_of_nonneg (h x (by simp))]
theorem far_ok {s : Int} (h : farB s = false) : 0 ≤ s ∧ s ≤ 65536 := by
  unfold farB at h
  by_cases h1 : s < 0
  · rw [decide_eq_true h1] at h; cases h
  · rw [decide_eq_false h1] at h
    have := of_decide_eq_false h
    omega
/-- every number that the view shows is there -/
def inL (off : Int) (ds ss : List Int) (l : List Int) : Bool := decide (∀ q, q < prodN (ds.map Int.toNat) → off.toNat + dot (dig (ds.map Int.toNat) q) (ss.map Int.toNat) < l.length)
def okRG (off : Int) (ds ss l : List Int) : Bool := okFine off ds ss && inL off ds ss l
def rdG (off : Int) (ds ss l : List Int) : List Int := vwL off.toNat (ds.map Int.toNat) (ss.map Int.toNat) l
theorem le_prodN {ds : List Nat} (h : ∀ d ∈ ds, 1 ≤ d) : ∀ d ∈ ds, d ≤ prodN ds := by
  induction ds with
  | nil => intro d hd; cases hd
  | cons a r ih =>
    intro d hd
    have h1 := h a (by simp)
    have h2 : ∀ x ∈ r, 1 ≤ x := fun x hx => h x (by simp [hx])
    have h3 := prodN_pos h2
    rcases List.mem_cons.1 hd with rfl | hd
    · exact Nat.le_mul_of_pos_right _ h3
    · exact Nat.le_trans (ih h2 d hd) (Nat.le_mul_of_pos_left _ h1)
theorem rbr_run {off : Int} {ds ss l : List Int} (h : okRG off ds ss l = true) : runC (gVr y132) Tryz.f79 5 [(5, [0, 1, 2, 3, 4, 5, 6, 14, 15, 16, 17, 18, 19, 20, 21, 22, 23, 24])] [vwB off 1 0, .d (.slice i64T) l] (hpDs ds ss) ah = some (.ret [.os 2 0, I 0], [(0, .arr 3 i64T 0 false ss), (1, .arr 3 i64T 0 false ds), (2, .arr 2 i64T 0 false (rdG off ds ss l))]) := by
  unfold okRG at h
  simp only [Bool.and_eq_true] at h
  obtain ⟨hf, hi⟩ := h
  obtain ⟨c1, c2, c3, c4, c5⟩ := of_decide_eq_true hf
  have hi := of_decide_eq_true hi
  obtain ⟨p1, p2, p3, _⟩ := count_ok c1
  have ed : ints (ds.map Int.toNat) = ds := ints_nat fun x hx => by have := p1 x hx; omega
  have es : ints (ss.map Int.toNat) = ss := ints_nat fun x hx => (far_ok (c5 x hx)).1
  have eo : ((off.toNat : Nat) : Int) = off := Int.toNat_of_nonneg c3
  have d1 : ∀ d ∈ ds.map Int.toNat, 1 ≤ d := fun d hd => by
    obtain ⟨x, hx, rfl⟩ := List.mem_map.1 hd
    have := p1 x hx
    omega
  have hN : prodN (ds.map Int.toNat) ≤ 65536 := by
    have e := prodI_ints (ds.map Int.toNat)
    rw [ed] at e
    omega
  have s1 : ∀ s ∈ ss.map Int.toNat, s ≤ 65536 := fun s hs => by
    obtain ⟨x, hx, rfl⟩ := List.mem_map.1 hs
    have := far_ok (c5 x hx)
    omega
  have key := plbG_run (off := off.toNat) (l := l) (ds := ds.map Int.toNat) (ss := ss.map Int.toNat) (by rw [List.length_map, List.length_map]; exact c2) d1 (fun d hd => Nat.le_trans (le_prodN d1 d hd) hN) s1 (by rw [List.length_map]; exact p2) (by omega) hN hi
  rw [ed, es, eo] at key
  refine Eq.trans (b := exC (gVr y132) cf_reb (cL (cR (cL (cR (cR (cR C_reb)))))) ⟨frVb off l, hpVb off ds ss l, 12⟩ (RKr y132)) ((rbr_eq y132 off ds ss l).trans (by rw [hf, cond_true]; kernel_rfl)) ?_
  exact rbr_go _ _ _ _ _ _ fun k => (plbE_eqv _ _ k).trans (runC_kw g163_good key k)
def reaG : List AV → LHp → Tq
  | [.pr (.d (.int .i64) off) (.pr (.os 1 0) (.pr (.os 0 0) (.d .unit ()))), .d (.slice (.int .i64)) l], [(0, .arr 3 (.int .i64) 0 false ss), (1, .arr 3 (.int .i64) 0 false ds)] =>
    .br (okRG off ds ss l) (.leaf (.ret [.os 2 0, I 0]) [(0, .arr 3 i64T 0 false ss), (1, .arr 3 i64T 0 false ds), (2, .arr 2 i64T 0 false (rdG off ds ss l))]) .no
  | _, _ => .no
theorem reaG_ok : FnE.OK e0.P e0.gam 79 (treeE reaG) := by
  have h1 : FnE.OK e0.P e0.gam 79 (execFnC (gVr y132) Tryz.f79 5 [(5, [0, 1, 2, 3, 4, 5, 6, 14, 15, 16, 17, 18, 19, 20, 21, 22, 23, 24])]) := execFnC_ok gVr_good hmix Tryz.func79 Tryz.call79 (by decide +kernel) rfl
  refine ⟨fun _ _ _ => Tq.eq _ _, fun args hs ae hs' h => ?_⟩
  have h' : (reaG args hs).run ah = some (ae, hs') := h
  clear h
  unfold reaG at h'
  split at h'
  · obtain ⟨hb, h2⟩ := Tq.br_no h'
    cases h2
    exact h1.okC (rbr_run hb)
  · cases h'
end Go.Proofs.XGT
namespace Go.Proofs.XGT
open Go.Vm Go
set_option maxRecDepth 100000
set_option maxHeartbeats 4000000
noncomputable def vtE : FnE := execFnC gVt Tryz.f80 7 [(4, [1, 2, 4, 17, 18, 19]), (13, [2, 4, 8, 38, 39, 40])]
theorem vtE_ok : FnE.OK e0.P e0.gam 80 vtE := execFnC_ok gVt_good hmix Tryz.func80 Tryz.call80 (by decide +kernel) rfl
noncomputable def rgE : FnE := execFnC (g214.add 79 (treeE reaG)) Tryz.f46 4 []
theorem rgE_ok : FnE.OK e0.P e0.gam 46 rgE := execFnC_ok (g214_good.add reaG_ok) hmix Tryz.func46 Tryz.call46 (by decide +kernel) rfl
noncomputable def gMq : Env := (g215.add 46 rgE).add 80 vtE
theorem gMq_good : gMq.Good := (g215_good.add rgE_ok).add vtE_ok
theorem mq1_eq (t a0 p0 : Int) (x : List Int) : runC gMq Tryz.f47 6 [(3, [2, 3, 5, 14, 15]), (9, [3, 7, 25, 26, 27])] [nodeA strTR [] [121] (.os 1 0) (.os 0 0), .d (Y0) (t, [a0], x, ())] (hpN true false [lattr strPerm [p0]] [[120]]) ah =
  bif countE [a0] != 0 then 
    bif countE [a0] != 0 then none
    else none
  else 
    bif okFine 0 [a0] [1] then 
      bif ordB [p0] then (idx [a0] p0).bind fun v3 =>
          ([a0][p0.toNat]?).bind fun v4 =>
            (idx [(1 : Int)] p0).bind fun v5 =>
              ([(1 : Int)][p0.toNat]?).bind fun v6 =>
                bif okRG 0 [v4] [v6] x then some (AEnd.ret [AV.os 2 0], [(0, AObj.arr 37 (Ty.str.pair ((i64T).pair ((i64T).pair ((i64T).pair (Ty.str.pair (((i64T).pair ((i64T).slice.pair ((i64T).slice.pair Ty.unit))).pair ((i64T).slice.pair Ty.unit))))))) 0 true [([112, 101, 114, 109], 7, 0, 0, [], (0, [], [], PUnit.unit), [p0], PUnit.unit)]), (1, AObj.arr 9 Ty.str 0 false [[120]]), (2, AObj.arr 2 (i64T) 0 false (rdG 0 [v4] [v6] x))])
                else none
      else none
    else none := by kernel_rfl
theorem mq2_eq (t a0 a1 p0 p1 : Int) (x : List Int) : runC gMq Tryz.f47 6 [(3, [2, 3, 5, 14, 15]), (9, [3, 7, 25, 26, 27])] [nodeA strTR [] [121] (.os 1 0) (.os 0 0), .d (Y0) (t, [a0, a1], x, ())] (hpN true false [lattr strPerm [p0, p1]] [[120]]) ah =
  bif countE [a0, a1] != 0 then 
    bif countE [a0, a1] != 0 then none
    else none
  else 
    bif okFine 0 [a0, a1] [IntKind.i64.wrap (1 * a1), 1] then 
      bif ordB [p0, p1] then (idx [a0, a1] p0).bind fun v3 =>
          ([a0, a1][p0.toNat]?).bind fun v4 =>
            (idx [IntKind.i64.wrap (1 * a1), 1] p0).bind fun v5 =>
              ([IntKind.i64.wrap (1 * a1), 1][p0.toNat]?).bind fun v6 =>
                (idx [a0, a1] p1).bind fun v7 =>
                  ([a0, a1][p1.toNat]?).bind fun v8 =>
                    (idx [IntKind.i64.wrap (1 * a1), 1] p1).bind fun v9 =>
                      ([IntKind.i64.wrap (1 * a1), 1][p1.toNat]?).bind fun v10 =>
                        bif okRG 0 [v4, v8] [v6, v10] x then some (AEnd.ret [AV.os 2 0], [(0, AObj.arr 37 (Ty.str.pair ((i64T).pair ((i64T).pair ((i64T).pair (Ty.str.pair (((i64T).pair ((i64T).slice.pair ((i64T).slice.pair Ty.unit))).pair ((i64T).slice.pair Ty.unit))))))) 0 true [([112, 101, 114, 109], 7, 0, 0, [], (0, [], [], PUnit.unit), [p0, p1], PUnit.unit)]), (1, AObj.arr 9 Ty.str 0 false [[120]]), (2, AObj.arr 2 (i64T) 0 false (rdG 0 [v4, v8] [v6, v10] x))])
                        else none
      else none
    else none := by kernel_rfl
theorem mq3_eq (t a0 a1 a2 p0 p1 p2 : Int) (x : List Int) : runC gMq Tryz.f47 6 [(3, [2, 3, 5, 14, 15]), (9, [3, 7, 25, 26, 27])] [nodeA strTR [] [121] (.os 1 0) (.os 0 0), .d (Y0) (t, [a0, a1, a2], x, ())] (hpN true false [lattr strPerm [p0, p1, p2]] [[120]]) ah =
  bif countE [a0, a1, a2] != 0 then 
    bif countE [a0, a1, a2] != 0 then none
    else none
  else 
    bif okFine 0 [a0, a1, a2] [IntKind.i64.wrap (IntKind.i64.wrap (1 * a2) * a1), IntKind.i64.wrap (1 * a2), 1] then 
      bif ordB [p0, p1, p2] then (idx [a0, a1, a2] p0).bind fun v3 =>
          ([a0, a1, a2][p0.toNat]?).bind fun v4 =>
            (idx [IntKind.i64.wrap (IntKind.i64.wrap (1 * a2) * a1), IntKind.i64.wrap (1 * a2), 1] p0).bind fun v5 =>
              ([IntKind.i64.wrap (IntKind.i64.wrap (1 * a2) * a1), IntKind.i64.wrap (1 * a2), 1][p0.toNat]?).bind fun v6 =>
                (idx [a0, a1, a2] p1).bind fun v7 =>
                  ([a0, a1, a2][p1.toNat]?).bind fun v8 =>
                    (idx [IntKind.i64.wrap (IntKind.i64.wrap (1 * a2) * a1), IntKind.i64.wrap (1 * a2), 1] p1).bind fun v9 =>
                      ([IntKind.i64.wrap (IntKind.i64.wrap (1 * a2) * a1), IntKind.i64.wrap (1 * a2), 1][p1.toNat]?).bind fun v10 =>
                        (idx [a0, a1, a2] p2).bind fun v11 =>
                          ([a0, a1, a2][p2.toNat]?).bind fun v12 =>
                            (idx [IntKind.i64.wrap (IntKind.i64.wrap (1 * a2) * a1), IntKind.i64.wrap (1 * a2), 1] p2).bind fun v13 =>
                              ([IntKind.i64.wrap (IntKind.i64.wrap (1 * a2) * a1), IntKind.i64.wrap (1 * a2), 1][p2.toNat]?).bind fun v14 =>
                                bif okRG 0 [v4, v8, v12] [v6, v10, v14] x then some (AEnd.ret [AV.os 2 0], [(0, AObj.arr 37 (Ty.str.pair ((i64T).pair ((i64T).pair ((i64T).pair (Ty.str.pair (((i64T).pair ((i64T).slice.pair ((i64T).slice.pair Ty.unit))).pair ((i64T).slice.pair Ty.unit))))))) 0 true [([112, 101, 114, 109], 7, 0, 0, [], (0, [], [], PUnit.unit), [p0, p1, p2], PUnit.unit)]), (1, AObj.arr 9 Ty.str 0 false [[120]]), (2, AObj.arr 2 (i64T) 0 false (rdG 0 [v4, v8, v12] [v6, v10, v14] x))])
                                else none
      else none
    else none := by kernel_rfl
theorem mq4_eq (t a0 a1 a2 a3 p0 p1 p2 p3 : Int) (x : List Int) : runC gMq Tryz.f47 6 [(3, [2, 3, 5, 14, 15]), (9, [3, 7, 25, 26, 27])] [nodeA strTR [] [121] (.os 1 0) (.os 0 0), .d (Y0) (t, [a0, a1, a2, a3], x, ())] (hpN true false [lattr strPerm [p0, p1, p2, p3]] [[120]]) ah =
  bif countE [a0, a1, a2, a3] != 0 then 
    bif countE [a0, a1, a2, a3] != 0 then none
    else none
  else 
    bif okFine 0 [a0, a1, a2, a3] [IntKind.i64.wrap (IntKind.i64.wrap (IntKind.i64.wrap (1 * a3) * a2) * a1), IntKind.i64.wrap (IntKind.i64.wrap (1 * a3) * a2), IntKind.i64.wrap (1 * a3), 1] then 
      bif ordB [p0, p1, p2, p3] then (idx [a0, a1, a2, a3] p0).bind fun v3 =>
          ([a0, a1, a2, a3][p0.toNat]?).bind fun v4 =>
            (idx [IntKind.i64.wrap (IntKind.i64.wrap (IntKind.i64.wrap (1 * a3) * a2) * a1), IntKind.i64.wrap (IntKind.i64.wrap (1 * a3) * a2), IntKind.i64.wrap (1 * a3), 1] p0).bind fun v5 =>
              ([IntKind.i64.wrap (IntKind.i64.wrap (IntKind.i64.wrap (1 * a3) * a2) * a1), IntKind.i64.wrap (IntKind.i64.wrap (1 * a3) * a2), IntKind.i64.wrap (1 * a3), 1][p0.toNat]?).bind fun v6 =>
                (idx [a0, a1, a2, a3] p1).bind fun v7 =>
                  ([a0, a1, a2, a3][p1.toNat]?).bind fun v8 =>
                    (idx [IntKind.i64.wrap (IntKind.i64.wrap (IntKind.i64.wrap (1 * a3) * a2) * a1), IntKind.i64.wrap (IntKind.i64.wrap (1 * a3) * a2), IntKind.i64.wrap (1 * a3), 1] p1).bind fun v9 =>
                      ([IntKind.i64.wrap (IntKind.i64.wrap (IntKind.i64.wrap (1 * a3) * a2) * a1), IntKind.i64.wrap (IntKind.i64.wrap (1 * a3) * a2), IntKind.i64.wrap (1 * a3), 1][p1.toNat]?).bind fun v10 =>
                        (idx [a0, a1, a2, a3] p2).bind fun v11 =>
                          ([a0, a1, a2, a3][p2.toNat]?).bind fun v12 =>
                            (idx [IntKind.i64.wrap (IntKind.i64.wrap (IntKind.i64.wrap (1 * a3) * a2) * a1), IntKind.i64.wrap (IntKind.i64.wrap (1 * a3) * a2), IntKind.i64.wrap (1 * a3), 1] p2).bind fun v13 =>
                              ([IntKind.i64.wrap (IntKind.i64.wrap (IntKind.i64.wrap (1 * a3) * a2) * a1), IntKind.i64.wrap (IntKind.i64.wrap (1 * a3) * a2), IntKind.i64.wrap (1 * a3), 1][p2.toNat]?).bind fun v14 =>
                                (idx [a0, a1, a2, a3] p3).bind fun v15 =>
                                  ([a0, a1, a2, a3][p3.toNat]?).bind fun v16 =>
                                    (idx [IntKind.i64.wrap (IntKind.i64.wrap (IntKind.i64.wrap (1 * a3) * a2) * a1), IntKind.i64.wrap (IntKind.i64.wrap (1 * a3) * a2), IntKind.i64.wrap (1 * a3), 1] p3).bind fun v17 =>
                                      ([IntKind.i64.wrap (IntKind.i64.wrap (IntKind.i64.wrap (1 * a3) * a2) * a1), IntKind.i64.wrap (IntKind.i64.wrap (1 * a3) * a2), IntKind.i64.wrap (1 * a3), 1][p3.toNat]?).bind fun v18 =>
                                        bif okRG 0 [v4, v8, v12, v16] [v6, v10, v14, v18] x then some (AEnd.ret [AV.os 2 0], [(0, AObj.arr 37 (Ty.str.pair ((i64T).pair ((i64T).pair ((i64T).pair (Ty.str.pair (((i64T).pair ((i64T).slice.pair ((i64T).slice.pair Ty.unit))).pair ((i64T).slice.pair Ty.unit))))))) 0 true [([112, 101, 114, 109], 7, 0, 0, [], (0, [], [], PUnit.unit), [p0, p1, p2, p3], PUnit.unit)]), (1, AObj.arr 9 Ty.str 0 false [[120]]), (2, AObj.arr 2 (i64T) 0 false (rdG 0 [v4, v8, v12, v16] [v6, v10, v14, v18] x))])
                                        else none
      else none
    else none := by kernel_rfl
theorem mq5_eq (t a0 a1 a2 a3 a4 p0 p1 p2 p3 p4 : Int) (x : List Int) : runC gMq Tryz.f47 6 [(3, [2, 3, 5, 14, 15]), (9, [3, 7, 25, 26, 27])] [nodeA strTR [] [121] (.os 1 0) (.os 0 0), .d (Y0) (t, [a0, a1, a2, a3, a4], x, ())] (hpN true false [lattr strPerm [p0, p1, p2, p3, p4]] [[120]]) ah =
  bif countE [a0, a1, a2, a3, a4] != 0 then 
    bif countE [a0, a1, a2, a3, a4] != 0 then none
    else none
  else 
    bif okFine 0 [a0, a1, a2, a3, a4] [IntKind.i64.wrap (IntKind.i64.wrap (IntKind.i64.wrap (IntKind.i64.wrap (1 * a4) * a3) * a2) * a1), IntKind.i64.wrap (IntKind.i64.wrap (IntKind.i64.wrap (1 * a4) * a3) * a2), IntKind.i64.wrap (IntKind.i64.wrap (1 * a4) * a3), IntKind.i64.wrap (1 * a4), 1] then 
      bif ordB [p0, p1, p2, p3, p4] then (idx [a0, a1, a2, a3, a4] p0).bind fun v3 =>
          ([a0, a1, a2, a3, a4][p0.toNat]?).bind fun v4 =>
            (idx [IntKind.i64.wrap (IntKind.i64.wrap (IntKind.i64.wrap (IntKind.i64.wrap (1 * a4) * a3) * a2) * a1), IntKind.i64.wrap (IntKind.i64.wrap (IntKind.i64.wrap (1 * a4) * a3) * a2), IntKind.i64.wrap (IntKind.i64.wrap (1 * a4) * a3), IntKind.i64.wrap (1 * a4), 1] p0).bind fun v5 =>
              ([IntKind.i64.wrap (IntKind.i64.wrap (IntKind.i64.wrap (IntKind.i64.wrap (1 * a4) * a3) * a2) * a1), IntKind.i64.wrap (IntKind.i64.wrap (IntKind.i64.wrap (1 * a4) * a3) * a2), IntKind.i64.wrap (IntKind.i64.wrap (1 * a4) * a3), IntKind.i64.wrap (1 * a4), 1][p0.toNat]?).bind fun v6 =>
                (idx [a0, a1, a2, a3, a4] p1).bind fun v7 =>
                  ([a0, a1, a2, a3, a4][p1.toNat]?).bind fun v8 =>
                    (idx [IntKind.i64.wrap (IntKind.i64.wrap (IntKind.i64.wrap (IntKind.i64.wrap (1 * a4) * a3) * a2) * a1), IntKind.i64.wrap (IntKind.i64.wrap (IntKind.i64.wrap (1 * a4) * a3) * a2), IntKind.i64.wrap (IntKind.i64.wrap (1 * a4) * a3), IntKind.i64.wrap (1 * a4), 1] p1).bind fun v9 =>
                      ([IntKind.i64.wrap (IntKind.i64.wrap (IntKind.i64.wrap (IntKind.i64.wrap (1 * a4) * a3) * a2) * a1), IntKind.i64.wrap (IntKind.i64.wrap (IntKind.i64.wrap (1 * a4) * a3) * a2), IntKind.i64.wrap (IntKind.i64.wrap (1 * a4) * a3), IntKind.i64.wrap (1 * a4), 1][p1.toNat]?).bind fun v10 =>
                        (idx [a0, a1, a2, a3, a4] p2).bind fun v11 =>
                          ([a0, a1, a2, a3, a4][p2.toNat]?).bind fun v12 =>
                            (idx [IntKind.i64.wrap (IntKind.i64.wrap (IntKind.i64.wrap (IntKind.i64.wrap (1 * a4) * a3) * a2) * a1), IntKind.i64.wrap (IntKind.i64.wrap (IntKind.i64.wrap (1 * a4) * a3) * a2), IntKind.i64.wrap (IntKind.i64.wrap (1 * a4) * a3), IntKind.i64.wrap (1 * a4), 1] p2).bind fun v13 =>
                              ([IntKind.i64.wrap (IntKind.i64.wrap (IntKind.i64.wrap (IntKind.i64.wrap (1 * a4) * a3) * a2) * a1), IntKind.i64.wrap (IntKind.i64.wrap (IntKind.i64.wrap (1 * a4) * a3) * a2), IntKind.i64.wrap (IntKind.i64.wrap (1 * a4) * a3), IntKind.i64.wrap (1 * a4), 1][p2.toNat]?).bind fun v14 =>
                                (idx [a0, a1, a2, a3, a4] p3).bind fun v15 =>
                                  ([a0, a1, a2, a3, a4][p3.toNat]?).bind fun v16 =>
                                    (idx [IntKind.i64.wrap (IntKind.i64.wrap (IntKind.i64.wrap (IntKind.i64.wrap (1 * a4) * a3) * a2) * a1), IntKind.i64.wrap (IntKind.i64.wrap (IntKind.i64.wrap (1 * a4) * a3) * a2), IntKind.i64.wrap (IntKind.i64.wrap (1 * a4) * a3), IntKind.i64.wrap (1 * a4), 1] p3).bind fun v17 =>
                                      ([IntKind.i64.wrap (IntKind.i64.wrap (IntKind.i64.wrap (IntKind.i64.wrap (1 * a4) * a3) * a2) * a1), IntKind.i64.wrap (IntKind.i64.wrap (IntKind.i64.wrap (1 * a4) * a3) * a2), IntKind.i64.wrap (IntKind.i64.wrap (1 * a4) * a3), IntKind.i64.wrap (1 * a4), 1][p3.toNat]?).bind fun v18 =>
                                        (idx [a0, a1, a2, a3, a4] p4).bind fun v19 =>
                                          ([a0, a1, a2, a3, a4][p4.toNat]?).bind fun v20 =>
                                            (idx [IntKind.i64.wrap (IntKind.i64.wrap (IntKind.i64.wrap (IntKind.i64.wrap (1 * a4) * a3) * a2) * a1), IntKind.i64.wrap (IntKind.i64.wrap (IntKind.i64.wrap (1 * a4) * a3) * a2), IntKind.i64.wrap (IntKind.i64.wrap (1 * a4) * a3), IntKind.i64.wrap (1 * a4), 1] p4).bind fun v21 =>
                                              ([IntKind.i64.wrap (IntKind.i64.wrap (IntKind.i64.wrap (IntKind.i64.wrap (1 * a4) * a3) * a2) * a1), IntKind.i64.wrap (IntKind.i64.wrap (IntKind.i64.wrap (1 * a4) * a3) * a2), IntKind.i64.wrap (IntKind.i64.wrap (1 * a4) * a3), IntKind.i64.wrap (1 * a4), 1][p4.toNat]?).bind fun v22 =>
                                                bif okRG 0 [v4, v8, v12, v16, v20] [v6, v10, v14, v18, v22] x then some (AEnd.ret [AV.os 2 0], [(0, AObj.arr 37 (Ty.str.pair ((i64T).pair ((i64T).pair ((i64T).pair (Ty.str.pair (((i64T).pair ((i64T).slice.pair ((i64T).slice.pair Ty.unit))).pair ((i64T).slice.pair Ty.unit))))))) 0 true [([112, 101, 114, 109], 7, 0, 0, [], (0, [], [], PUnit.unit), [p0, p1, p2, p3, p4], PUnit.unit)]), (1, AObj.arr 9 Ty.str 0 false [[120]]), (2, AObj.arr 2 (i64T) 0 false (rdG 0 [v4, v8, v12, v16, v20] [v6, v10, v14, v18, v22] x))])
                                                else none
      else none
    else none := by kernel_rfl
theorem mq6_eq (t a0 a1 a2 a3 a4 a5 p0 p1 p2 p3 p4 p5 : Int) (x : List Int) : runC gMq Tryz.f47 6 [(3, [2, 3, 5, 14, 15]), (9, [3, 7, 25, 26, 27])] [nodeA strTR [] [121] (.os 1 0) (.os 0 0), .d (Y0) (t, [a0, a1, a2, a3, a4, a5], x, ())] (hpN true false [lattr strPerm [p0, p1, p2, p3, p4, p5]] [[120]]) ah =
  bif countE [a0, a1, a2, a3, a4, a5] != 0 then 
    bif countE [a0, a1, a2, a3, a4, a5] != 0 then none
    else none
  else 
    bif okFine 0 [a0, a1, a2, a3, a4, a5] [IntKind.i64.wrap (IntKind.i64.wrap (IntKind.i64.wrap (IntKind.i64.wrap (IntKind.i64.wrap (1 * a5) * a4) * a3) * a2) * a1), IntKind.i64.wrap (IntKind.i64.wrap (IntKind.i64.wrap (IntKind.i64.wrap (1 * a5) * a4) * a3) * a2), IntKind.i64.wrap (IntKind.i64.wrap (IntKind.i64.wrap (1 * a5) * a4) * a3), IntKind.i64.wrap (IntKind.i64.wrap (1 * a5) * a4), IntKind.i64.wrap (1 * a5), 1] then 
      bif ordB [p0, p1, p2, p3, p4, p5] then (idx [a0, a1, a2, a3, a4, a5] p0).bind fun v3 =>
          ([a0, a1, a2, a3, a4, a5][p0.toNat]?).bind fun v4 =>
            (idx [IntKind.i64.wrap (IntKind.i64.wrap (IntKind.i64.wrap (IntKind.i64.wrap (IntKind.i64.wrap (1 * a5) * a4) * a3) * a2) * a1), IntKind.i64.wrap (IntKind.i64.wrap (IntKind.i64.wrap (IntKind.i64.wrap (1 * a5) * a4) * a3) * a2), IntKind.i64.wrap (IntKind.i64.wrap (IntKind.i64.wrap (1 * a5) * a4) * a3), IntKind.i64.wrap (IntKind.i64.wrap (1 * a5) * a4), IntKind.i64.wrap (1 * a5), 1] p0).bind fun v5 =>
              ([IntKind.i64.wrap (IntKind.i64.wrap (IntKind.i64.wrap (IntKind.i64.wrap (IntKind.i64.wrap (1 * a5) * a4) * a3) * a2) * a1), IntKind.i64.wrap (IntKind.i64.wrap (IntKind.i64.wrap (IntKind.i64.wrap (1 * a5) * a4) * a3) * a2), IntKind.i64.wrap (IntKind.i64.wrap (IntKind.i64.wrap (1 * a5) * a4) * a3), IntKind.i64.wrap (IntKind.i64.wrap (1 * a5) * a4), IntKind.i64.wrap (1 * a5), 1][p0.toNat]?).bind fun v6 =>
                (idx [a0, a1, a2, a3, a4, a5] p1).bind fun v7 =>
                  ([a0, a1, a2, a3, a4, a5][p1.toNat]?).bind fun v8 =>
                    (idx [IntKind.i64.wrap (IntKind.i64.wrap (IntKind.i64.wrap (IntKind.i64.wrap (IntKind.i64.wrap (1 * a5) * a4) * a3) * a2) * a1), IntKind.i64.wrap (IntKind.i64.wrap (IntKind.i64.wrap (IntKind.i64.wrap (1 * a5) * a4) * a3) * a2), IntKind.i64.wrap (IntKind.i64.wrap (IntKind.i64.wrap (1 * a5) * a4) * a3), IntKind.i64.wrap (IntKind.i64.wrap (1 * a5) * a4), IntKind.i64.wrap (1 * a5), 1] p1).bind fun v9 =>
                      ([IntKind.i64.wrap (IntKind.i64.wrap (IntKind.i64.wrap (IntKind.i64.wrap (IntKind.i64.wrap (1 * a5) * a4) * a3) * a2) * a1), IntKind.i64.wrap (IntKind.i64.wrap (IntKind.i64.wrap (IntKind.i64.wrap (1 * a5) * a4) * a3) * a2), IntKind.i64.wrap (IntKind.i64.wrap (IntKind.i64.wrap (1 * a5) * a4) * a3), IntKind.i64.wrap (IntKind.i64.wrap (1 * a5) * a4), IntKind.i64.wrap (1 * a5), 1][p1.toNat]?).bind fun v10 =>
                        (idx [a0, a1, a2, a3, a4, a5] p2).bind fun v11 =>
                          ([a0, a1, a2, a3, a4, a5][p2.toNat]?).bind fun v12 =>
                            (idx [IntKind.i64.wrap (IntKind.i64.wrap (IntKind.i64.wrap (IntKind.i64.wrap (IntKind.i64.wrap (1 * a5) * a4) * a3) * a2) * a1), IntKind.i64.wrap (IntKind.i64.wrap (IntKind.i64.wrap (IntKind.i64.wrap (1 * a5) * a4) * a3) * a2), IntKind.i64.wrap (IntKind.i64.wrap (IntKind.i64.wrap (1 * a5) * a4) * a3), IntKind.i64.wrap (IntKind.i64.wrap (1 * a5) * a4), IntKind.i64.wrap (1 * a5), 1] p2).bind fun v13 =>
                              ([IntKind.i64.wrap (IntKind.i64.wrap (IntKind.i64.wrap (IntKind.i64.wrap (IntKind.i64.wrap (1 * a5) * a4) * a3) * a2) * a1), IntKind.i64.wrap (IntKind.i64.wrap (IntKind.i64.wrap (IntKind.i64.wrap (1 * a5) * a4) * a3) * a2), IntKind.i64.wrap (IntKind.i64.wrap (IntKind.i64.wrap (1 * a5) * a4) * a3), IntKind.i64.wrap (IntKind.i64.wrap (1 * a5) * a4), IntKind.i64.wrap (1 * a5), 1][p2.toNat]?).bind fun v14 =>
                                (idx [a0, a1, a2, a3, a4, a5] p3).bind fun v15 =>
                                  ([a0, a1, a2, a3, a4, a5][p3.toNat]?).bind fun v16 =>
                                    (idx [IntKind.i64.wrap (IntKind.i64.wrap (IntKind.i64.wrap (IntKind.i64.wrap (IntKind.i64.wrap (1 * a5) * a4) * a3) * a2) * a1), IntKind.i64.wrap (IntKind.i64.wrap (IntKind.i64.wrap (IntKind.i64.wrap (1 * a5) * a4) * a3) * a2), IntKind.i64.wrap (IntKind.i64.wrap (IntKind.i64.wrap (1 * a5) * a4) * a3), IntKind.i64.wrap (IntKind.i64.wrap (1 * a5) * a4), IntKind.i64.wrap (1 * a5), 1] p3).bind fun v17 =>
                                      ([IntKind.i64.wrap (IntKind.i64.wrap (IntKind.i64.wrap (IntKind.i64.wrap (IntKind.i64.wrap (1 * a5) * a4) * a3) * a2) * a1), IntKind.i64.wrap (IntKind.i64.wrap (IntKind.i64.wrap (IntKind.i64.wrap (1 * a5) * a4) * a3) * a2), IntKind.i64.wrap (IntKind.i64.wrap (IntKind.i64.wrap (1 * a5) * a4) * a3), IntKind.i64.wrap (IntKind.i64.wrap (1 * a5) * a4), IntKind.i64.wrap (1 * a5), 1][p3.toNat]?).bind fun v18 =>
                                        (idx [a0, a1, a2, a3, a4, a5] p4).bind fun v19 =>
                                          ([a0, a1, a2, a3, a4, a5][p4.toNat]?).bind fun v20 =>
                                            (idx [IntKind.i64.wrap (IntKind.i64.wrap (IntKind.i64.wrap (IntKind.i64.wrap (IntKind.i64.wrap (1 * a5) * a4) * a3) * a2) * a1), IntKind.i64.wrap (IntKind.i64.wrap (IntKind.i64.wrap (IntKind.i64.wrap (1 * a5) * a4) * a3) * a2), IntKind.i64.wrap (IntKind.i64.wrap (IntKind.i64.wrap (1 * a5) * a4) * a3), IntKind.i64.wrap (IntKind.i64.wrap (1 * a5) * a4), IntKind.i64.wrap (1 * a5), 1] p4).bind fun v21 =>
                                              ([IntKind.i64.wrap (IntKind.i64.wrap (IntKind.i64.wrap (IntKind.i64.wrap (IntKind.i64.wrap (1 * a5) * a4) * a3) * a2) * a1), IntKind.i64.wrap (IntKind.i64.wrap (IntKind.i64.wrap (IntKind.i64.wrap (1 * a5) * a4) * a3) * a2), IntKind.i64.wrap (IntKind.i64.wrap (IntKind.i64.wrap (1 * a5) * a4) * a3), IntKind.i64.wrap (IntKind.i64.wrap (1 * a5) * a4), IntKind.i64.wrap (1 * a5), 1][p4.toNat]?).bind fun v22 =>
                                                (idx [a0, a1, a2, a3, a4, a5] p5).bind fun v23 =>
                                                  ([a0, a1, a2, a3, a4, a5][p5.toNat]?).bind fun v24 =>
                                                    (idx [IntKind.i64.wrap (IntKind.i64.wrap (IntKind.i64.wrap (IntKind.i64.wrap (IntKind.i64.wrap (1 * a5) * a4) * a3) * a2) * a1), IntKind.i64.wrap (IntKind.i64.wrap (IntKind.i64.wrap (IntKind.i64.wrap (1 * a5) * a4) * a3) * a2), IntKind.i64.wrap (IntKind.i64.wrap (IntKind.i64.wrap (1 * a5) * a4) * a3), IntKind.i64.wrap (IntKind.i64.wrap (1 * a5) * a4), IntKind.i64.wrap (1 * a5), 1] p5).bind fun v25 =>
                                                      ([IntKind.i64.wrap (IntKind.i64.wrap (IntKind.i64.wrap (IntKind.i64.wrap (IntKind.i64.wrap (1 * a5) * a4) * a3) * a2) * a1), IntKind.i64.wrap (IntKind.i64.wrap (IntKind.i64.wrap (IntKind.i64.wrap (1 * a5) * a4) * a3) * a2), IntKind.i64.wrap (IntKind.i64.wrap (IntKind.i64.wrap (1 * a5) * a4) * a3), IntKind.i64.wrap (IntKind.i64.wrap (1 * a5) * a4), IntKind.i64.wrap (1 * a5), 1][p5.toNat]?).bind fun v26 =>
                                                        bif okRG 0 [v4, v8, v12, v16, v20, v24] [v6, v10, v14, v18, v22, v26] x then some (AEnd.ret [AV.os 2 0], [(0, AObj.arr 37 (Ty.str.pair ((i64T).pair ((i64T).pair ((i64T).pair (Ty.str.pair (((i64T).pair ((i64T).slice.pair ((i64T).slice.pair Ty.unit))).pair ((i64T).slice.pair Ty.unit))))))) 0 true [([112, 101, 114, 109], 7, 0, 0, [], (0, [], [], PUnit.unit), [p0, p1, p2, p3, p4, p5], PUnit.unit)]), (1, AObj.arr 9 Ty.str 0 false [[120]]), (2, AObj.arr 2 (i64T) 0 false (rdG 0 [v4, v8, v12, v16, v20, v24] [v6, v10, v14, v18, v22, v26] x))])
                                                        else none
      else none
    else none := by kernel_rfl
end Go.Proofs.XGT
namespace Go.Proofs.XGT
open Go.Vm Go
set_option maxRecDepth 100000
set_option maxHeartbeats 4000000
noncomputable def C_num : Code := codeOf Tryz.f160
noncomputable def cf_num : Cfg := ⟨47, 6, 3, [(4, [3, 4, 5, 14, 21, 22, 23])], true⟩
def hpNu (pm ot : List Int) : LHp := [(0, .arr 2 i64T 0 false ot), (1, .arr 37 (Y1) 0 true [lattr strPerm pm]), (2, .arr 9 .str 0 false [[120]])]
theorem num_eqH (hl : Hl) (c lo hi p : Int) (pm ot : List Int) : runH g106 Tryz.f160 6 [(4, [3, 4, 5, 14, 21, 22, 23])] [4] hl [nodeA strTR [] [121] (.os 2 0) (.os 1 0), .d .str strPerm, .os 0 0, I c, I lo, I hi] (hpNu (p :: pm) ot) ah =
  (app [] (p :: pm)).bind fun v0 =>
    hl (cL (cL (cR (cL (cR (cR (cR C_num))))))) _ { fr := mkFr 6 [(3, I c), (4, I lo), (5, I hi), (14, AV.nils), (21, AV.os 3 0), (22, I (Int.ofNat v0.length)), (23, I 0)], hp := [(0, AObj.arr 2 (i64T) 0 false ot), (1, AObj.arr 37 (Ty.str.pair ((i64T).pair ((i64T).pair ((i64T).pair (Ty.str.pair (((i64T).pair ((i64T).slice.pair ((i64T).slice.pair Ty.unit))).pair ((i64T).slice.pair Ty.unit))))))) 0 true [([112, 101, 114, 109], 7, 0, 0, [], (0, [], [], PUnit.unit), p :: pm, PUnit.unit)]), (2, AObj.arr 9 Ty.str 0 false [[120]]), (3, AObj.arr 2 (i64T) 0 false v0)], nx := 7 } (blkK 0 (seqH g106 cf_num [4] hl (cR (cR (cR (cR C_num)))) (endC Tryz.prog 3 Tryz.f160.results.toList ah))) := by kernel_rfl
theorem num_eq (c lo hi p : Int) (pm ot : List Int) : runC g106 Tryz.f160 6 [(4, [3, 4, 5, 14, 21, 22, 23])] [nodeA strTR [] [121] (.os 2 0) (.os 1 0), .d .str strPerm, .os 0 0, I c, I lo, I hi] (hpNu (p :: pm) ot) ah =
  (app [] (p :: pm)).bind fun v0 =>
    (hlp g106 cf_num) (cL (cL (cR (cL (cR (cR (cR C_num))))))) _ { fr := mkFr 6 [(3, I c), (4, I lo), (5, I hi), (14, AV.nils), (21, AV.os 3 0), (22, I (Int.ofNat v0.length)), (23, I 0)], hp := [(0, AObj.arr 2 (i64T) 0 false ot), (1, AObj.arr 37 (Ty.str.pair ((i64T).pair ((i64T).pair ((i64T).pair (Ty.str.pair (((i64T).pair ((i64T).slice.pair ((i64T).slice.pair Ty.unit))).pair ((i64T).slice.pair Ty.unit))))))) 0 true [([112, 101, 114, 109], 7, 0, 0, [], (0, [], [], PUnit.unit), p :: pm, PUnit.unit)]), (2, AObj.arr 9 Ty.str 0 false [[120]]), (3, AObj.arr 2 (i64T) 0 false v0)], nx := 7 } (blkK 0 (seqH g106 cf_num [4] (hlp g106 cf_num) (cR (cR (cR (cR C_num)))) (endC Tryz.prog 3 Tryz.f160.results.toList ah))) := runH_runC.trans (num_eqH (hlp g106 cf_num) c lo hi p pm ot)
def stNu0 (c lo hi : Int) (pm ot L : List Int) (i : Int) : LSt := { fr := mkFr 6 [(3, I c), (4, I lo), (5, I hi), (14, AV.nils), (21, AV.os 3 0), (22, I (Int.ofNat L.length)), (23, I i)], hp := hpNu pm ot ++ [(3, AObj.arr 2 i64T 0 false L)], nx := 7 }
theorem num_st0H (hl : Hl) (c lo hi : Int) (pm ot L : List Int) (i : Int) (n : Nat) {R : Type} (k : AEx → LSt → Option R) : lpH g106 cf_num [4] hl (cL (cL (cR (cL (cR (cR (cR C_num))))))) (n + 1) (stNu0 c lo hi pm ot L i) k =
  bif decide (i < Int.ofNat L.length) then (idx L i).bind fun v1 =>
      (L[i.toNat]?).bind fun v2 =>
        bif decide (lo ≤ v2) then 
          bif !decide (v2 ≤ hi) then k (AEx.panic 123 4) { fr := mkFr 6 [(3, I c), (4, I lo), (5, I hi), (14, AV.nils), (16, I v2), (21, AV.os 3 0), (22, I (Int.ofNat L.length)), (23, I i), (24, B true), (25, AV.oe 3 0 i.toNat), (26, I v2), (27, I lo), (28, I v2), (29, B (decide (lo ≤ v2))), (30, B true), (31, I v2), (32, I hi), (33, B (decide (v2 ≤ hi))), (34, B (decide (v2 ≤ hi)))], hp := [(0, AObj.arr 2 (i64T) 0 false ot), (1, AObj.arr 37 (Ty.str.pair ((i64T).pair ((i64T).pair ((i64T).pair (Ty.str.pair (((i64T).pair ((i64T).slice.pair ((i64T).slice.pair Ty.unit))).pair ((i64T).slice.pair Ty.unit))))))) 0 true [([112, 101, 114, 109], 7, 0, 0, [], (0, [], [], PUnit.unit), pm, PUnit.unit)]), (2, AObj.arr 9 Ty.str 0 false [[120]]), (3, AObj.arr 2 (i64T) 0 false L)], nx := 7 }
          else lpH g106 cf_num [4] hl (cL (cL (cR (cL (cR (cR (cR C_num))))))) n { fr := mkFr 6 [(3, I c), (4, I lo), (5, I hi), (14, AV.os 3 0), (21, AV.os 4 0), (22, I (Int.ofNat L.length)), (23, I (IntKind.i64.wrap (i + 1)))], hp := [(0, AObj.arr 2 (i64T) 0 false ot), (1, AObj.arr 37 (Ty.str.pair ((i64T).pair ((i64T).pair ((i64T).pair (Ty.str.pair (((i64T).pair ((i64T).slice.pair ((i64T).slice.pair Ty.unit))).pair ((i64T).slice.pair Ty.unit))))))) 0 true [([112, 101, 114, 109], 7, 0, 0, [], (0, [], [], PUnit.unit), pm, PUnit.unit)]), (2, AObj.arr 9 Ty.str 0 false [[120]]), (3, AObj.arr 3 (i64T) 0 false [v2]), (4, AObj.arr 2 (i64T) 0 false L)], nx := 8 } k
        else k (AEx.panic 123 4) { fr := mkFr 6 [(3, I c), (4, I lo), (5, I hi), (14, AV.nils), (16, I v2), (21, AV.os 3 0), (22, I (Int.ofNat L.length)), (23, I i), (24, B true), (25, AV.oe 3 0 i.toNat), (26, I v2), (27, I lo), (28, I v2), (29, B (decide (lo ≤ v2))), (30, B false), (31, AV.tup []), (32, AV.tup []), (33, AV.tup []), (34, B false)], hp := [(0, AObj.arr 2 (i64T) 0 false ot), (1, AObj.arr 37 (Ty.str.pair ((i64T).pair ((i64T).pair ((i64T).pair (Ty.str.pair (((i64T).pair ((i64T).slice.pair ((i64T).slice.pair Ty.unit))).pair ((i64T).slice.pair Ty.unit))))))) 0 true [([112, 101, 114, 109], 7, 0, 0, [], (0, [], [], PUnit.unit), pm, PUnit.unit)]), (2, AObj.arr 9 Ty.str 0 false [[120]]), (3, AObj.arr 2 (i64T) 0 false L)], nx := 7 }
  else k (AEx.exit 0) { fr := mkFr 6 [(3, I c), (4, I lo), (5, I hi), (14, AV.nils), (21, AV.os 3 0), (22, I (Int.ofNat L.length)), (23, I i), (24, B false)], hp := [(0, AObj.arr 2 (i64T) 0 false ot), (1, AObj.arr 37 (Ty.str.pair ((i64T).pair ((i64T).pair ((i64T).pair (Ty.str.pair (((i64T).pair ((i64T).slice.pair ((i64T).slice.pair Ty.unit))).pair ((i64T).slice.pair Ty.unit))))))) 0 true [([112, 101, 114, 109], 7, 0, 0, [], (0, [], [], PUnit.unit), pm, PUnit.unit)]), (2, AObj.arr 9 Ty.str 0 false [[120]]), (3, AObj.arr 2 (i64T) 0 false L)], nx := 7 } := by kernel_rfl
theorem num_st0 (c lo hi : Int) (pm ot L : List Int) (i : Int) (n : Nat) {R : Type} (k : AEx → LSt → Option R) : lp g106 cf_num (cL (cL (cR (cL (cR (cR (cR C_num))))))) (n + 1) (stNu0 c lo hi pm ot L i) k =
  bif decide (i < Int.ofNat L.length) then (idx L i).bind fun v1 =>
      (L[i.toNat]?).bind fun v2 =>
        bif decide (lo ≤ v2) then 
          bif !decide (v2 ≤ hi) then k (AEx.panic 123 4) { fr := mkFr 6 [(3, I c), (4, I lo), (5, I hi), (14, AV.nils), (16, I v2), (21, AV.os 3 0), (22, I (Int.ofNat L.length)), (23, I i), (24, B true), (25, AV.oe 3 0 i.toNat), (26, I v2), (27, I lo), (28, I v2), (29, B (decide (lo ≤ v2))), (30, B true), (31, I v2), (32, I hi), (33, B (decide (v2 ≤ hi))), (34, B (decide (v2 ≤ hi)))], hp := [(0, AObj.arr 2 (i64T) 0 false ot), (1, AObj.arr 37 (Ty.str.pair ((i64T).pair ((i64T).pair ((i64T).pair (Ty.str.pair (((i64T).pair ((i64T).slice.pair ((i64T).slice.pair Ty.unit))).pair ((i64T).slice.pair Ty.unit))))))) 0 true [([112, 101, 114, 109], 7, 0, 0, [], (0, [], [], PUnit.unit), pm, PUnit.unit)]), (2, AObj.arr 9 Ty.str 0 false [[120]]), (3, AObj.arr 2 (i64T) 0 false L)], nx := 7 }
          else lp g106 cf_num (cL (cL (cR (cL (cR (cR (cR C_num))))))) n { fr := mkFr 6 [(3, I c), (4, I lo), (5, I hi), (14, AV.os 3 0), (21, AV.os 4 0), (22, I (Int.ofNat L.length)), (23, I (IntKind.i64.wrap (i + 1)))], hp := [(0, AObj.arr 2 (i64T) 0 false ot), (1, AObj.arr 37 (Ty.str.pair ((i64T).pair ((i64T).pair ((i64T).pair (Ty.str.pair (((i64T).pair ((i64T).slice.pair ((i64T).slice.pair Ty.unit))).pair ((i64T).slice.pair Ty.unit))))))) 0 true [([112, 101, 114, 109], 7, 0, 0, [], (0, [], [], PUnit.unit), pm, PUnit.unit)]), (2, AObj.arr 9 Ty.str 0 false [[120]]), (3, AObj.arr 3 (i64T) 0 false [v2]), (4, AObj.arr 2 (i64T) 0 false L)], nx := 8 } k
        else k (AEx.panic 123 4) { fr := mkFr 6 [(3, I c), (4, I lo), (5, I hi), (14, AV.nils), (16, I v2), (21, AV.os 3 0), (22, I (Int.ofNat L.length)), (23, I i), (24, B true), (25, AV.oe 3 0 i.toNat), (26, I v2), (27, I lo), (28, I v2), (29, B (decide (lo ≤ v2))), (30, B false), (31, AV.tup []), (32, AV.tup []), (33, AV.tup []), (34, B false)], hp := [(0, AObj.arr 2 (i64T) 0 false ot), (1, AObj.arr 37 (Ty.str.pair ((i64T).pair ((i64T).pair ((i64T).pair (Ty.str.pair (((i64T).pair ((i64T).slice.pair ((i64T).slice.pair Ty.unit))).pair ((i64T).slice.pair Ty.unit))))))) 0 true [([112, 101, 114, 109], 7, 0, 0, [], (0, [], [], PUnit.unit), pm, PUnit.unit)]), (2, AObj.arr 9 Ty.str 0 false [[120]]), (3, AObj.arr 2 (i64T) 0 false L)], nx := 7 }
  else k (AEx.exit 0) { fr := mkFr 6 [(3, I c), (4, I lo), (5, I hi), (14, AV.nils), (21, AV.os 3 0), (22, I (Int.ofNat L.length)), (23, I i), (24, B false)], hp := [(0, AObj.arr 2 (i64T) 0 false ot), (1, AObj.arr 37 (Ty.str.pair ((i64T).pair ((i64T).pair ((i64T).pair (Ty.str.pair (((i64T).pair ((i64T).slice.pair ((i64T).slice.pair Ty.unit))).pair ((i64T).slice.pair Ty.unit))))))) 0 true [([112, 101, 114, 109], 7, 0, 0, [], (0, [], [], PUnit.unit), pm, PUnit.unit)]), (2, AObj.arr 9 Ty.str 0 false [[120]]), (3, AObj.arr 2 (i64T) 0 false L)], nx := 7 } := by
  have h := num_st0H (hlp g106 cf_num) c lo hi pm ot L i n k
  simp only [lpH_lp] at h
  exact h
def hpNv (pm ot out L : List Int) : LHp := hpNu pm ot ++ [(3, AObj.arr 3 i64T 0 false out), (4, AObj.arr 2 i64T 0 false L)]
def stNu1 (c lo hi : Int) (pm ot out L : List Int) (i : Int) : LSt := { fr := mkFr 6 [(3, I c), (4, I lo), (5, I hi), (14, AV.os 3 0), (21, AV.os 4 0), (22, I (Int.ofNat L.length)), (23, I i)], hp := hpNv pm ot out L, nx := 8 }
theorem num_st1H (hl : Hl) (c lo hi o : Int) (pm ot out L : List Int) (i : Int) (n : Nat) {R : Type} (k : AEx → LSt → Option R) : lpH g106 cf_num [4] hl (cL (cL (cR (cL (cR (cR (cR C_num))))))) (n + 1) (stNu1 c lo hi pm ot (o :: out) L i) k =
  bif decide (i < Int.ofNat L.length) then (idx L i).bind fun v1 =>
      (L[i.toNat]?).bind fun v2 =>
        bif decide (lo ≤ v2) then 
          bif !decide (v2 ≤ hi) then k (AEx.panic 123 4) { fr := mkFr 6 [(3, I c), (4, I lo), (5, I hi), (14, AV.os 3 0), (16, I v2), (21, AV.os 4 0), (22, I (Int.ofNat L.length)), (23, I i), (24, B true), (25, AV.oe 4 0 i.toNat), (26, I v2), (27, I lo), (28, I v2), (29, B (decide (lo ≤ v2))), (30, B true), (31, I v2), (32, I hi), (33, B (decide (v2 ≤ hi))), (34, B (decide (v2 ≤ hi)))], hp := [(0, AObj.arr 2 (i64T) 0 false ot), (1, AObj.arr 37 (Ty.str.pair ((i64T).pair ((i64T).pair ((i64T).pair (Ty.str.pair (((i64T).pair ((i64T).slice.pair ((i64T).slice.pair Ty.unit))).pair ((i64T).slice.pair Ty.unit))))))) 0 true [([112, 101, 114, 109], 7, 0, 0, [], (0, [], [], PUnit.unit), pm, PUnit.unit)]), (2, AObj.arr 9 Ty.str 0 false [[120]]), (3, AObj.arr 3 (i64T) 0 false (o :: out)), (4, AObj.arr 2 (i64T) 0 false L)], nx := 8 }
          else (app (o :: out) [v2]).bind fun v5 =>
              lpH g106 cf_num [4] hl (cL (cL (cR (cL (cR (cR (cR C_num))))))) n { fr := mkFr 6 [(3, I c), (4, I lo), (5, I hi), (14, AV.os 3 0), (21, AV.os 4 0), (22, I (Int.ofNat L.length)), (23, I (IntKind.i64.wrap (i + 1)))], hp := [(0, AObj.arr 2 (i64T) 0 false ot), (1, AObj.arr 37 (Ty.str.pair ((i64T).pair ((i64T).pair ((i64T).pair (Ty.str.pair (((i64T).pair ((i64T).slice.pair ((i64T).slice.pair Ty.unit))).pair ((i64T).slice.pair Ty.unit))))))) 0 true [([112, 101, 114, 109], 7, 0, 0, [], (0, [], [], PUnit.unit), pm, PUnit.unit)]), (2, AObj.arr 9 Ty.str 0 false [[120]]), (3, AObj.arr 3 (i64T) 0 false v5), (4, AObj.arr 2 (i64T) 0 false L)], nx := 8 } k
        else k (AEx.panic 123 4) { fr := mkFr 6 [(3, I c), (4, I lo), (5, I hi), (14, AV.os 3 0), (16, I v2), (21, AV.os 4 0), (22, I (Int.ofNat L.length)), (23, I i), (24, B true), (25, AV.oe 4 0 i.toNat), (26, I v2), (27, I lo), (28, I v2), (29, B (decide (lo ≤ v2))), (30, B false), (31, AV.tup []), (32, AV.tup []), (33, AV.tup []), (34, B false)], hp := [(0, AObj.arr 2 (i64T) 0 false ot), (1, AObj.arr 37 (Ty.str.pair ((i64T).pair ((i64T).pair ((i64T).pair (Ty.str.pair (((i64T).pair ((i64T).slice.pair ((i64T).slice.pair Ty.unit))).pair ((i64T).slice.pair Ty.unit))))))) 0 true [([112, 101, 114, 109], 7, 0, 0, [], (0, [], [], PUnit.unit), pm, PUnit.unit)]), (2, AObj.arr 9 Ty.str 0 false [[120]]), (3, AObj.arr 3 (i64T) 0 false (o :: out)), (4, AObj.arr 2 (i64T) 0 false L)], nx := 8 }
  else k (AEx.exit 0) { fr := mkFr 6 [(3, I c), (4, I lo), (5, I hi), (14, AV.os 3 0), (21, AV.os 4 0), (22, I (Int.ofNat L.length)), (23, I i), (24, B false)], hp := [(0, AObj.arr 2 (i64T) 0 false ot), (1, AObj.arr 37 (Ty.str.pair ((i64T).pair ((i64T).pair ((i64T).pair (Ty.str.pair (((i64T).pair ((i64T).slice.pair ((i64T).slice.pair Ty.unit))).pair ((i64T).slice.pair Ty.unit))))))) 0 true [([112, 101, 114, 109], 7, 0, 0, [], (0, [], [], PUnit.unit), pm, PUnit.unit)]), (2, AObj.arr 9 Ty.str 0 false [[120]]), (3, AObj.arr 3 (i64T) 0 false (o :: out)), (4, AObj.arr 2 (i64T) 0 false L)], nx := 8 } := by kernel_rfl
theorem num_st1 (c lo hi o : Int) (pm ot out L : List Int) (i : Int) (n : Nat) {R : Type} (k : AEx → LSt → Option R) : lp g106 cf_num (cL (cL (cR (cL (cR (cR (cR C_num))))))) (n + 1) (stNu1 c lo hi pm ot (o :: out) L i) k =
  bif decide (i < Int.ofNat L.length) then (idx L i).bind fun v1 =>
      (L[i.toNat]?).bind fun v2 =>
        bif decide (lo ≤ v2) then 
          bif !decide (v2 ≤ hi) then k (AEx.panic 123 4) { fr := mkFr 6 [(3, I c), (4, I lo), (5, I hi), (14, AV.os 3 0), (16, I v2), (21, AV.os 4 0), (22, I (Int.ofNat L.length)), (23, I i), (24, B true), (25, AV.oe 4 0 i.toNat), (26, I v2), (27, I lo), (28, I v2), (29, B (decide (lo ≤ v2))), (30, B true), (31, I v2), (32, I hi), (33, B (decide (v2 ≤ hi))), (34, B (decide (v2 ≤ hi)))], hp := [(0, AObj.arr 2 (i64T) 0 false ot), (1, AObj.arr 37 (Ty.str.pair ((i64T).pair ((i64T).pair ((i64T).pair (Ty.str.pair (((i64T).pair ((i64T).slice.pair ((i64T).slice.pair Ty.unit))).pair ((i64T).slice.pair Ty.unit))))))) 0 true [([112, 101, 114, 109], 7, 0, 0, [], (0, [], [], PUnit.unit), pm, PUnit.unit)]), (2, AObj.arr 9 Ty.str 0 false [[120]]), (3, AObj.arr 3 (i64T) 0 false (o :: out)), (4, AObj.arr 2 (i64T) 0 false L)], nx := 8 }
          else (app (o :: out) [v2]).bind fun v5 =>
              lp g106 cf_num (cL (cL (cR (cL (cR (cR (cR C_num))))))) n { fr := mkFr 6 [(3, I c), (4, I lo), (5, I hi), (14, AV.os 3 0), (21, AV.os 4 0), (22, I (Int.ofNat L.length)), (23, I (IntKind.i64.wrap (i + 1)))], hp := [(0, AObj.arr 2 (i64T) 0 false ot), (1, AObj.arr 37 (Ty.str.pair ((i64T).pair ((i64T).pair ((i64T).pair (Ty.str.pair (((i64T).pair ((i64T).slice.pair ((i64T).slice.pair Ty.unit))).pair ((i64T).slice.pair Ty.unit))))))) 0 true [([112, 101, 114, 109], 7, 0, 0, [], (0, [], [], PUnit.unit), pm, PUnit.unit)]), (2, AObj.arr 9 Ty.str 0 false [[120]]), (3, AObj.arr 3 (i64T) 0 false v5), (4, AObj.arr 2 (i64T) 0 false L)], nx := 8 } k
        else k (AEx.panic 123 4) { fr := mkFr 6 [(3, I c), (4, I lo), (5, I hi), (14, AV.os 3 0), (16, I v2), (21, AV.os 4 0), (22, I (Int.ofNat L.length)), (23, I i), (24, B true), (25, AV.oe 4 0 i.toNat), (26, I v2), (27, I lo), (28, I v2), (29, B (decide (lo ≤ v2))), (30, B false), (31, AV.tup []), (32, AV.tup []), (33, AV.tup []), (34, B false)], hp := [(0, AObj.arr 2 (i64T) 0 false ot), (1, AObj.arr 37 (Ty.str.pair ((i64T).pair ((i64T).pair ((i64T).pair (Ty.str.pair (((i64T).pair ((i64T).slice.pair ((i64T).slice.pair Ty.unit))).pair ((i64T).slice.pair Ty.unit))))))) 0 true [([112, 101, 114, 109], 7, 0, 0, [], (0, [], [], PUnit.unit), pm, PUnit.unit)]), (2, AObj.arr 9 Ty.str 0 false [[120]]), (3, AObj.arr 3 (i64T) 0 false (o :: out)), (4, AObj.arr 2 (i64T) 0 false L)], nx := 8 }
  else k (AEx.exit 0) { fr := mkFr 6 [(3, I c), (4, I lo), (5, I hi), (14, AV.os 3 0), (21, AV.os 4 0), (22, I (Int.ofNat L.length)), (23, I i), (24, B false)], hp := [(0, AObj.arr 2 (i64T) 0 false ot), (1, AObj.arr 37 (Ty.str.pair ((i64T).pair ((i64T).pair ((i64T).pair (Ty.str.pair (((i64T).pair ((i64T).slice.pair ((i64T).slice.pair Ty.unit))).pair ((i64T).slice.pair Ty.unit))))))) 0 true [([112, 101, 114, 109], 7, 0, 0, [], (0, [], [], PUnit.unit), pm, PUnit.unit)]), (2, AObj.arr 9 Ty.str 0 false [[120]]), (3, AObj.arr 3 (i64T) 0 false (o :: out)), (4, AObj.arr 2 (i64T) 0 false L)], nx := 8 } := by
  have h := num_st1H (hlp g106 cf_num) c lo hi o pm ot out L i n k
  simp only [lpH_lp] at h
  exact h
noncomputable def KN : AEx → LSt → Option (AEnd × LHp) := (blkK 0 (seqH g106 cf_num [4] (hlp g106 cf_num) (cR (cR (cR (cR C_num)))) (endC Tryz.prog 3 Tryz.f160.results.toList ah)))
def stNp (c lo hi v : Int) (q : AV) (i l : Int) (b : Bool) (r s : Nat) (hp : LHp) (nx : Nat) : LSt := { fr := mkFr 6 [(3, I c), (4, I lo), (5, I hi), (14, q), (16, I v), (21, AV.os r 0), (22, I l), (23, I i), (24, B true), (25, AV.oe s 0 i.toNat), (26, I v), (27, I lo), (28, I v), (29, B (decide (lo ≤ v))), (30, B true), (31, I v), (32, I hi), (33, B (decide (v ≤ hi))), (34, B b)], hp := hp, nx := nx }
def stNq (c lo hi v : Int) (q : AV) (i l : Int) (r s : Nat) (hp : LHp) (nx : Nat) : LSt := { fr := mkFr 6 [(3, I c), (4, I lo), (5, I hi), (14, q), (16, I v), (21, AV.os r 0), (22, I l), (23, I i), (24, B true), (25, AV.oe s 0 i.toNat), (26, I v), (27, I lo), (28, I v), (29, B (decide (lo ≤ v))), (30, B false), (31, AV.tup []), (32, AV.tup []), (33, AV.tup []), (34, B false)], hp := hp, nx := nx }
theorem kn_p0 (c lo hi v i l : Int) (b : Bool) (pm ot L : List Int) : KN (.panic 123 4) (stNp c lo hi v .nils i l b 3 3 (hpNu pm ot ++ [(3, AObj.arr 2 i64T 0 false L)]) 7) =
  some (AEnd.panic 123 4, [(0, AObj.arr 2 (i64T) 0 false ot), (1, AObj.arr 37 (Ty.str.pair ((i64T).pair ((i64T).pair ((i64T).pair (Ty.str.pair (((i64T).pair ((i64T).slice.pair ((i64T).slice.pair Ty.unit))).pair ((i64T).slice.pair Ty.unit))))))) 0 true [([112, 101, 114, 109], 7, 0, 0, [], (0, [], [], PUnit.unit), pm, PUnit.unit)]), (2, AObj.arr 9 Ty.str 0 false [[120]])]) := by kernel_rfl
theorem kn_q0 (c lo hi v i l : Int) (pm ot L : List Int) : KN (.panic 123 4) (stNq c lo hi v .nils i l 3 3 (hpNu pm ot ++ [(3, AObj.arr 2 i64T 0 false L)]) 7) =
  some (AEnd.panic 123 4, [(0, AObj.arr 2 (i64T) 0 false ot), (1, AObj.arr 37 (Ty.str.pair ((i64T).pair ((i64T).pair ((i64T).pair (Ty.str.pair (((i64T).pair ((i64T).slice.pair ((i64T).slice.pair Ty.unit))).pair ((i64T).slice.pair Ty.unit))))))) 0 true [([112, 101, 114, 109], 7, 0, 0, [], (0, [], [], PUnit.unit), pm, PUnit.unit)]), (2, AObj.arr 9 Ty.str 0 false [[120]])]) := by kernel_rfl
theorem kn_p1 (c lo hi v i l : Int) (b : Bool) (pm ot out L : List Int) : KN (.panic 123 4) (stNp c lo hi v (.os 3 0) i l b 4 4 (hpNv pm ot out L) 8) =
  some (AEnd.panic 123 4, [(0, AObj.arr 2 (i64T) 0 false ot), (1, AObj.arr 37 (Ty.str.pair ((i64T).pair ((i64T).pair ((i64T).pair (Ty.str.pair (((i64T).pair ((i64T).slice.pair ((i64T).slice.pair Ty.unit))).pair ((i64T).slice.pair Ty.unit))))))) 0 true [([112, 101, 114, 109], 7, 0, 0, [], (0, [], [], PUnit.unit), pm, PUnit.unit)]), (2, AObj.arr 9 Ty.str 0 false [[120]])]) := by kernel_rfl
theorem kn_q1 (c lo hi v i l : Int) (pm ot out L : List Int) : KN (.panic 123 4) (stNq c lo hi v (.os 3 0) i l 4 4 (hpNv pm ot out L) 8) =
  some (AEnd.panic 123 4, [(0, AObj.arr 2 (i64T) 0 false ot), (1, AObj.arr 37 (Ty.str.pair ((i64T).pair ((i64T).pair ((i64T).pair (Ty.str.pair (((i64T).pair ((i64T).slice.pair ((i64T).slice.pair Ty.unit))).pair ((i64T).slice.pair Ty.unit))))))) 0 true [([112, 101, 114, 109], 7, 0, 0, [], (0, [], [], PUnit.unit), pm, PUnit.unit)]), (2, AObj.arr 9 Ty.str 0 false [[120]])]) := by kernel_rfl
theorem kn_e1 (c lo hi i l : Int) (pm ot out L : List Int) : KN (.exit 0) { fr := mkFr 6 [(3, I c), (4, I lo), (5, I hi), (14, AV.os 3 0), (21, AV.os 4 0), (22, I l), (23, I i), (24, B false)], hp := hpNv pm ot out L, nx := 8 } =
  bif !Int.ofNat out.length == c then some (AEnd.panic 123 4, [(0, AObj.arr 2 (i64T) 0 false ot), (1, AObj.arr 37 (Ty.str.pair ((i64T).pair ((i64T).pair ((i64T).pair (Ty.str.pair (((i64T).pair ((i64T).slice.pair ((i64T).slice.pair Ty.unit))).pair ((i64T).slice.pair Ty.unit))))))) 0 true [([112, 101, 114, 109], 7, 0, 0, [], (0, [], [], PUnit.unit), pm, PUnit.unit)]), (2, AObj.arr 9 Ty.str 0 false [[120]])])
  else some (AEnd.ret [AV.os 3 0], [(0, AObj.arr 2 (i64T) 0 false ot), (1, AObj.arr 37 (Ty.str.pair ((i64T).pair ((i64T).pair ((i64T).pair (Ty.str.pair (((i64T).pair ((i64T).slice.pair ((i64T).slice.pair Ty.unit))).pair ((i64T).slice.pair Ty.unit))))))) 0 true [([112, 101, 114, 109], 7, 0, 0, [], (0, [], [], PUnit.unit), pm, PUnit.unit)]), (2, AObj.arr 9 Ty.str 0 false [[120]]), (3, AObj.arr 3 (i64T) 0 false out)]) := by kernel_rfl
end Go.Proofs.XGT
namespace Go.Proofs.XGT
open Go.Vm Go
set_option maxRecDepth 100000
set_option maxHeartbeats 1000000
/-- all numbers of a list lie between two -/
def allIn (lo hi : Int) (l : List Int) : Bool := l.all fun v => decide (lo ≤ v) && decide (v ≤ hi)
def numR (c lo hi : Int) (pm ot l : List Int) : Option (AEnd × LHp) := bif allIn lo hi l && (Int.ofNat pm.length == c) then some (.ret [.os 3 0], hpNu pm ot ++ [(3, .arr 3 i64T 0 false pm)]) else some (.panic 123 4, hpNu pm ot)
theorem num_loop {c lo hi : Int} {pm ot : List Int} (hl : pm.length ≤ 2147483648) : ∀ (r i n : Nat), i + r = pm.length → 1 ≤ i → r < n →
    lp g106 cf_num (cL (cL (cR (cL (cR (cR (cR C_num))))))) n (stNu1 c lo hi pm ot (pm.take i) pm (i : Nat)) KN = numR c lo hi pm ot (pm.drop i) := by
  intro r
  induction r with
  | zero =>
    intro i n hir h1 hn
    obtain ⟨n, rfl⟩ : ∃ m', n = m' + 1 := ⟨n - 1, by omega⟩
    rw [List.take_of_length_le (by omega), List.drop_eq_nil_of_le (by omega)]
    cases hpm : pm with
    | nil => rw [hpm] at hir; simp only [List.length_nil] at hir; omega
    | cons o out =>
      rw [hpm] at hir
      rw [num_st1, decide_eq_false (show ¬ ((i : Int) < Int.ofNat (o :: out).length) by simp only [Int.ofNat_eq_natCast]; omega), cond_false]
      refine (kn_e1 _ _ _ _ _ _ _ _ _).trans ?_
      unfold numR allIn
      simp only [List.all_nil, Bool.true_and]
      cases (Int.ofNat (o :: out).length == c) <;> rfl
  | succ r ih =>
    intro i n hir h1 hn
    obtain ⟨n, rfl⟩ : ∃ m', n = m' + 1 := ⟨n - 1, by omega⟩
    have hlt : i < pm.length := by omega
    have e0 : IntKind.i64.wrap ((i : Int) + 1) = ((i + 1 : Nat) : Int) := by rw [wrap64 (by omega) (by omega)]; omega
    have gx : pm[i]? = some pm[i] := List.getElem?_eq_getElem hlt
    have gi : idx pm (i : Int) = some pm[i] := by unfold idx; rw [if_pos (by omega), Int.toNat_natCast, gx]
    have ed : pm.drop i = pm[i] :: pm.drop (i + 1) := List.drop_eq_getElem_cons hlt
    have et : pm.take (i + 1) = pm.take i ++ [pm[i]] := (List.take_append_getElem hlt).symm
    have key := ih (i + 1) n (by omega) (by omega) (by omega)
    cases ht : pm.take i with
    | nil =>
      have := congrArg List.length ht
      rw [List.length_take, List.length_nil] at this
      omega
    | cons o out =>
      have hlen : (o :: out).length + [pm[i]].length ≤ lim := by rw [List.length_singleton, show lim = 4294967296 from rfl]; rw [← ht, List.length_take]; omega
      rw [num_st1, decide_eq_true (show ((i : Int) < Int.ofNat pm.length) by simp only [Int.ofNat_eq_natCast]; omega), cond_true, gi, Option.bind_some, Int.toNat_natCast, gx, Option.bind_some]
      cases h2 : decide (lo ≤ pm[i]) with
      | false =>
        have er : numR c lo hi pm ot (pm.drop i) = some (.panic 123 4, hpNu pm ot) := by
          unfold numR allIn
          rw [ed, List.all_cons, h2]
          rfl
        rw [er, cond_false]
        have x := kn_q1 c lo hi pm[i] (i : Int) (Int.ofNat pm.length) pm ot (o :: out) pm
        unfold stNq at x
        rw [h2] at x
        exact x
      | true =>
        rw [cond_true]
        cases h3 : decide (pm[i] ≤ hi) with
        | false =>
          have er : numR c lo hi pm ot (pm.drop i) = some (.panic 123 4, hpNu pm ot) := by
            unfold numR allIn
            rw [ed, List.all_cons, h2, h3]
            rfl
          rw [er, Bool.not_false, cond_true]
          have x := kn_p1 c lo hi pm[i] (i : Int) (Int.ofNat pm.length) false pm ot (o :: out) pm
          unfold stNp at x
          rw [h2, h3] at x
          exact x
        | true =>
          have er : numR c lo hi pm ot (pm.drop i) = numR c lo hi pm ot (pm.drop (i + 1)) := by
            unfold numR allIn
            rw [ed, List.all_cons, h2, h3]
            rfl
          rw [er, Bool.not_true, cond_false, app_eq hlen, Option.bind_some, e0, ← ht, ← et]
          exact key
end Go.Proofs.XGT
namespace Go.Proofs.XGT
open Go.Vm Go
set_option maxRecDepth 100000
set_option maxHeartbeats 1000000
theorem num_run {c lo hi p : Int} {pm ot : List Int} (hl : (p :: pm).length ≤ 2147483648) : runC g106 Tryz.f160 6 [(4, [3, 4, 5, 14, 21, 22, 23])] [nodeA strTR [] [121] (.os 2 0) (.os 1 0), .d .str strPerm, .os 0 0, I c, I lo, I hi] (hpNu (p :: pm) ot) ah = numR c lo hi (p :: pm) ot (p :: pm) := by
  have hf : fu = 18446744073709551616 := rfl
  have e1 : app [] (p :: pm) = some (p :: pm) := app_eq (by simp only [List.length_nil, lim]; omega)
  have key : runC g106 Tryz.f160 6 [(4, [3, 4, 5, 14, 21, 22, 23])] [nodeA strTR [] [121] (.os 2 0) (.os 1 0), .d .str strPerm, .os 0 0, I c, I lo, I hi] (hpNu (p :: pm) ot) ah = lp g106 cf_num (cL (cL (cR (cL (cR (cR (cR C_num))))))) fu (stNu0 c lo hi (p :: pm) ot (p :: pm) 0) KN := (num_eq c lo hi p pm ot).trans (by rw [e1, Option.bind_some]; kernel_rfl)
  obtain ⟨n, hn⟩ : ∃ n, fu = n + 1 := ⟨18446744073709551615, rfl⟩
  refine key.trans ?_
  rw [hn, num_st0, decide_eq_true (show ((0 : Int) < Int.ofNat (p :: pm).length) by simp only [Int.ofNat_eq_natCast, List.length_cons]; omega), cond_true, show idx (p :: pm) 0 = some p from rfl, Option.bind_some, show (p :: pm)[(0 : Int).toNat]? = some p from rfl, Option.bind_some]
  cases h2 : decide (lo ≤ p) with
  | false =>
    have er : numR c lo hi (p :: pm) ot (p :: pm) = some (.panic 123 4, hpNu (p :: pm) ot) := by
      unfold numR allIn
      rw [List.all_cons, h2]
      rfl
    rw [er, cond_false]
    have x := kn_q0 c lo hi p 0 (Int.ofNat (p :: pm).length) (p :: pm) ot (p :: pm)
    unfold stNq at x
    rw [h2] at x
    exact x
  | true =>
    rw [cond_true]
    cases h3 : decide (p ≤ hi) with
    | false =>
      have er : numR c lo hi (p :: pm) ot (p :: pm) = some (.panic 123 4, hpNu (p :: pm) ot) := by
        unfold numR allIn
        rw [List.all_cons, h2, h3]
        rfl
      rw [er, Bool.not_false, cond_true]
      have x := kn_p0 c lo hi p 0 (Int.ofNat (p :: pm).length) false (p :: pm) ot (p :: pm)
      unfold stNp at x
      rw [h2, h3] at x
      exact x
    | true =>
      have er : numR c lo hi (p :: pm) ot (p :: pm) = numR c lo hi (p :: pm) ot ((p :: pm).drop 1) := by
        unfold numR allIn
        rw [List.all_cons, h2, h3]
        rfl
      rw [er, Bool.not_true, cond_false]
      exact num_loop hl pm.length 1 n (by simp only [List.length_cons]; omega) (Nat.le_refl _) (by simp only [List.length_cons] at hl; omega)
end Go.Proofs.XGT
namespace Go.Proofs.XGT
open Go.Vm Go
set_option maxRecDepth 100000
set_option maxHeartbeats 4000000
def numC (c lo hi : Int) (l : List Int) : Bool := allIn lo hi l && (Int.ofNat l.length == c)
def numL (c lo hi : Int) (ot : List Int) : List Int → Tq
  | [] => .no
  | p :: pm => .br (decide ((p :: pm).length ≤ 2147483648)) (.br (numC c lo hi (p :: pm)) (.leaf (.ret [.os 3 0]) (hpNu (p :: pm) ot ++ [(3, .arr 3 i64T 0 false (p :: pm))])) (.leaf (.panic 123 4) (hpNu (p :: pm) ot))) .no
def numT : List AV → LHp → Tq
  | [n, .d .str nm, .os 0 0, .d (.int .i64) c, .d (.int .i64) lo, .d (.int .i64) hi], [(0, .arr 2 (.int .i64) 0 false ot), (1, .arr 37 ((.pair .str (.pair (.int .i64) (.pair (.int .i64) (.pair (.int .i64) (.pair .str (.pair (.pair (.int .i64) (.pair (.slice (.int .i64)) (.pair (.slice (.int .i64)) .unit))) (.pair (.slice (.int .i64)) .unit)))))))) 0 true [a]), (2, .arr 9 .str 0 false ins)] =>
    (match nodeP n with
    | some (op, nm2, out, .os 2 0, .os 1 0) => gate (decide (op = strTR) && decide (nm2 = []) && decide (out = [121]) && decide (ins = [[120]]) && decide (nm = strPerm) && isL a strPerm) (numL c lo hi ot a.2.2.2.2.2.2.1)
    | _ => .no)
  | _, _ => .no
theorem numT_ok : FnE.OK e0.P e0.gam 160 (treeE numT) := by
  have h1 : FnE.OK e0.P e0.gam 160 (execFnC g106 Tryz.f160 6 [(4, [3, 4, 5, 14, 21, 22, 23])]) := y160_ok
  refine ⟨fun _ _ _ => Tq.eq _ _, fun args hs ae hs' h => ?_⟩
  have h' : (numT args hs).run ah = some (ae, hs') := h
  clear h
  unfold numT at h'
  split at h'
  · split at h'
    · rename_i hn
      rw [nodeP_some hn]
      obtain ⟨hb, h2⟩ := gate_run h'
      clear h'
      simp only [Bool.and_eq_true, decide_eq_true_eq] at hb
      obtain ⟨⟨⟨⟨⟨b1, b2⟩, b3⟩, b4⟩, b5⟩, b6⟩ := hb
      subst b1 b2 b3 b4 b5
      obtain ⟨l, rfl⟩ := isL_eq b6
      change (numL _ _ _ _ l).run ah = _ at h2
      cases l with
      | nil => cases h2
      | cons p pm =>
        obtain ⟨hl, h3⟩ := Tq.br_no h2
        exact h1.okC ((num_run (of_decide_eq_true hl)).trans h3)
    · cases h'
  · cases h'
noncomputable def mkE : FnE := execFnC (g113.add 160 (treeElse numT y160)) Tryz.f162 6 [(6, [1, 6, 7, 24, 25, 26])]
theorem mkE_ok : FnE.OK e0.P e0.gam 162 mkE := execFnC_ok (g113_good.add (treeElse_ok numT_ok y160_ok)) hmix Tryz.func162 Tryz.call162 (by decide +kernel) rfl
noncomputable def mvT : FnE := execFnC (g149.add 162 mkE) Tryz.f127 7 []
theorem mvT_ok : FnE.OK e0.P e0.gam 127 mvT := execFnC_ok (g149_good.add mkE_ok) hmix Tryz.func127 Tryz.call127 (by decide +kernel) rfl
noncomputable def dmT : FnE := execFnC (g150.add 127 mvT) Tryz.f94 8 [(56, [3, 132, 133, 134])]
theorem dmT_ok : FnE.OK e0.P e0.gam 94 dmT := execFnC_ok (g150_good.add mvT_ok) hmix Tryz.func94 Tryz.call94 (by decide +kernel) rfl
noncomputable def ouT : FnE := execFnDC (g152.add 94 dmT) Tryz.f55 7 [(5, [1, 2, 4, 5, 26, 27, 28])] dd55
theorem ouT_ok : FnE.OK e0.P e0.gam 55 ouT := execFnDC_ok (g152_good.add dmT_ok) (execFnD_ok (D := dd55) (g152_good.add dmT_ok) hmix Tryz.func55 Tryz.call55 rfl rfl (by decide +kernel) rfl Tryz.func89 Tryz.call89 rfl rfl (by decide +kernel))
noncomputable def gBh : Env := g212.add 55 ouT
theorem gBh_good : gBh.Good := g212_good.add ouT_ok
def hpTb (z : Bool) (t : Int) (d x : List Int) (ats : List (Y1).den) : LHp := [(0, .arr 25 (Y0) 0 false [(t, d, x, ())]), (1, .arr 37 (Y1) 0 z ats), (2, .arr 9 .str 0 false [[120]])]
end Go.Proofs.XGT
namespace Go.Proofs.XGT
open Go.Vm Go
set_option maxRecDepth 100000
set_option maxHeartbeats 4000000
theorem mh1_eq (t a0 p0 : Int) (x : List Int) : runC gBh Tryz.f42 6 [(3, [2, 4, 6, 9, 10, 11])] [nodeA strTR [] [121] (.os 2 0) (.os 1 0), .os 0 0] (hpTb false t [a0] x [lattr strPerm [p0]]) ah =
  bif decide (1 ≤ 9223372036854775807 ∧ x.length ≤ 9223372036854775807) then 
    bif tenE t [a0] x != 0 then some (AEnd.ret [(AV.d Ty.str []).pr ((I 0).pr (AV.nils.pr (AV.d Ty.unit PUnit.unit))), I 1], [(0, AObj.arr 25 ((i64T).pair ((i64T).slice.pair ((i64T).slice.pair Ty.unit))) 0 false [(t, [a0], x, PUnit.unit)]), (1, AObj.arr 37 (Ty.str.pair ((i64T).pair ((i64T).pair ((i64T).pair (Ty.str.pair (((i64T).pair ((i64T).slice.pair ((i64T).slice.pair Ty.unit))).pair ((i64T).slice.pair Ty.unit))))))) 0 false [([112, 101, 114, 109], 7, 0, 0, [], (0, [], [], PUnit.unit), [p0], PUnit.unit)]), (2, AObj.arr 9 Ty.str 0 false [[120]])])
    else 
      bif !numOk t 0 then some (AEnd.ret [(AV.d Ty.str []).pr ((I 0).pr (AV.nils.pr (AV.d Ty.unit PUnit.unit))), I 5], [(0, AObj.arr 25 ((i64T).pair ((i64T).slice.pair ((i64T).slice.pair Ty.unit))) 0 false [(t, [a0], x, PUnit.unit)]), (1, AObj.arr 37 (Ty.str.pair ((i64T).pair ((i64T).pair ((i64T).pair (Ty.str.pair (((i64T).pair ((i64T).slice.pair ((i64T).slice.pair Ty.unit))).pair ((i64T).slice.pair Ty.unit))))))) 0 true [([112, 101, 114, 109], 7, 0, 0, [], (0, [], [], PUnit.unit), [p0], PUnit.unit)]), (2, AObj.arr 9 Ty.str 0 false [[120]])])
      else 
        bif countE [a0] != 0 then some (AEnd.ret [(AV.d Ty.str []).pr ((I 0).pr (AV.nils.pr (AV.d Ty.unit PUnit.unit))), I (countE [a0])], [(0, AObj.arr 25 ((i64T).pair ((i64T).slice.pair ((i64T).slice.pair Ty.unit))) 0 false [(t, [a0], x, PUnit.unit)]), (1, AObj.arr 37 (Ty.str.pair ((i64T).pair ((i64T).pair ((i64T).pair (Ty.str.pair (((i64T).pair ((i64T).slice.pair ((i64T).slice.pair Ty.unit))).pair ((i64T).slice.pair Ty.unit))))))) 0 true [([112, 101, 114, 109], 7, 0, 0, [], (0, [], [], PUnit.unit), [p0], PUnit.unit)]), (2, AObj.arr 9 Ty.str 0 false [[120]])])
        else 
          bif t == 6 then 
            bif numC 1 0 0 [p0] then (idx [a0] p0).bind fun v6 =>
                bif countE [v6] != 0 then some (AEnd.ret [(AV.d Ty.str []).pr ((I 0).pr (AV.nils.pr (AV.d Ty.unit PUnit.unit))), I (countE [v6])], [(0, AObj.arr 25 ((i64T).pair ((i64T).slice.pair ((i64T).slice.pair Ty.unit))) 0 false [(t, [a0], x, PUnit.unit)]), (1, AObj.arr 37 (Ty.str.pair ((i64T).pair ((i64T).pair ((i64T).pair (Ty.str.pair (((i64T).pair ((i64T).slice.pair ((i64T).slice.pair Ty.unit))).pair ((i64T).slice.pair Ty.unit))))))) 0 true [([112, 101, 114, 109], 7, 0, 0, [], (0, [], [], PUnit.unit), [p0], PUnit.unit)]), (2, AObj.arr 9 Ty.str 0 false [[120]])])
                else some (AEnd.ret [(AV.d Ty.str [121]).pr ((I t).pr ((AV.os 3 0).pr (AV.d Ty.unit PUnit.unit))), I 0], [(0, AObj.arr 25 ((i64T).pair ((i64T).slice.pair ((i64T).slice.pair Ty.unit))) 0 false [(t, [a0], x, PUnit.unit)]), (1, AObj.arr 37 (Ty.str.pair ((i64T).pair ((i64T).pair ((i64T).pair (Ty.str.pair (((i64T).pair ((i64T).slice.pair ((i64T).slice.pair Ty.unit))).pair ((i64T).slice.pair Ty.unit))))))) 0 true [([112, 101, 114, 109], 7, 0, 0, [], (0, [], [], PUnit.unit), [p0], PUnit.unit)]), (2, AObj.arr 9 Ty.str 0 false [[120]]), (3, AObj.arr 3 (i64T) 0 false [v6])])
            else some (AEnd.ret [(AV.d Ty.str []).pr ((I 0).pr (AV.nils.pr (AV.d Ty.unit PUnit.unit))), I 4], [(0, AObj.arr 25 ((i64T).pair ((i64T).slice.pair ((i64T).slice.pair Ty.unit))) 0 false [(t, [a0], x, PUnit.unit)]), (1, AObj.arr 37 (Ty.str.pair ((i64T).pair ((i64T).pair ((i64T).pair (Ty.str.pair (((i64T).pair ((i64T).slice.pair ((i64T).slice.pair Ty.unit))).pair ((i64T).slice.pair Ty.unit))))))) 0 true [([112, 101, 114, 109], 7, 0, 0, [], (0, [], [], PUnit.unit), [p0], PUnit.unit)]), (2, AObj.arr 9 Ty.str 0 false [[120]])])
          else 
            bif numC 1 0 0 [p0] then (idx [a0] p0).bind fun v6 =>
                bif countE [v6] != 0 then some (AEnd.ret [(AV.d Ty.str []).pr ((I 0).pr (AV.nils.pr (AV.d Ty.unit PUnit.unit))), I (countE [v6])], [(0, AObj.arr 25 ((i64T).pair ((i64T).slice.pair ((i64T).slice.pair Ty.unit))) 0 false [(t, [a0], x, PUnit.unit)]), (1, AObj.arr 37 (Ty.str.pair ((i64T).pair ((i64T).pair ((i64T).pair (Ty.str.pair (((i64T).pair ((i64T).slice.pair ((i64T).slice.pair Ty.unit))).pair ((i64T).slice.pair Ty.unit))))))) 0 true [([112, 101, 114, 109], 7, 0, 0, [], (0, [], [], PUnit.unit), [p0], PUnit.unit)]), (2, AObj.arr 9 Ty.str 0 false [[120]])])
                else some (AEnd.ret [(AV.d Ty.str [121]).pr ((I t).pr ((AV.os 3 0).pr (AV.d Ty.unit PUnit.unit))), I 0], [(0, AObj.arr 25 ((i64T).pair ((i64T).slice.pair ((i64T).slice.pair Ty.unit))) 0 false [(t, [a0], x, PUnit.unit)]), (1, AObj.arr 37 (Ty.str.pair ((i64T).pair ((i64T).pair ((i64T).pair (Ty.str.pair (((i64T).pair ((i64T).slice.pair ((i64T).slice.pair Ty.unit))).pair ((i64T).slice.pair Ty.unit))))))) 0 true [([112, 101, 114, 109], 7, 0, 0, [], (0, [], [], PUnit.unit), [p0], PUnit.unit)]), (2, AObj.arr 9 Ty.str 0 false [[120]]), (3, AObj.arr 3 (i64T) 0 false [v6])])
            else some (AEnd.ret [(AV.d Ty.str []).pr ((I 0).pr (AV.nils.pr (AV.d Ty.unit PUnit.unit))), I 4], [(0, AObj.arr 25 ((i64T).pair ((i64T).slice.pair ((i64T).slice.pair Ty.unit))) 0 false [(t, [a0], x, PUnit.unit)]), (1, AObj.arr 37 (Ty.str.pair ((i64T).pair ((i64T).pair ((i64T).pair (Ty.str.pair (((i64T).pair ((i64T).slice.pair ((i64T).slice.pair Ty.unit))).pair ((i64T).slice.pair Ty.unit))))))) 0 true [([112, 101, 114, 109], 7, 0, 0, [], (0, [], [], PUnit.unit), [p0], PUnit.unit)]), (2, AObj.arr 9 Ty.str 0 false [[120]])])
  else none := by kernel_rfl
theorem mh2_eq (t a0 a1 p0 p1 : Int) (x : List Int) : runC gBh Tryz.f42 6 [(3, [2, 4, 6, 9, 10, 11])] [nodeA strTR [] [121] (.os 2 0) (.os 1 0), .os 0 0] (hpTb false t [a0, a1] x [lattr strPerm [p0, p1]]) ah =
  bif decide (2 ≤ 9223372036854775807 ∧ x.length ≤ 9223372036854775807) then 
    bif tenE t [a0, a1] x != 0 then some (AEnd.ret [(AV.d Ty.str []).pr ((I 0).pr (AV.nils.pr (AV.d Ty.unit PUnit.unit))), I 1], [(0, AObj.arr 25 ((i64T).pair ((i64T).slice.pair ((i64T).slice.pair Ty.unit))) 0 false [(t, [a0, a1], x, PUnit.unit)]), (1, AObj.arr 37 (Ty.str.pair ((i64T).pair ((i64T).pair ((i64T).pair (Ty.str.pair (((i64T).pair ((i64T).slice.pair ((i64T).slice.pair Ty.unit))).pair ((i64T).slice.pair Ty.unit))))))) 0 false [([112, 101, 114, 109], 7, 0, 0, [], (0, [], [], PUnit.unit), [p0, p1], PUnit.unit)]), (2, AObj.arr 9 Ty.str 0 false [[120]])])
    else 
      bif !numOk t 0 then some (AEnd.ret [(AV.d Ty.str []).pr ((I 0).pr (AV.nils.pr (AV.d Ty.unit PUnit.unit))), I 5], [(0, AObj.arr 25 ((i64T).pair ((i64T).slice.pair ((i64T).slice.pair Ty.unit))) 0 false [(t, [a0, a1], x, PUnit.unit)]), (1, AObj.arr 37 (Ty.str.pair ((i64T).pair ((i64T).pair ((i64T).pair (Ty.str.pair (((i64T).pair ((i64T).slice.pair ((i64T).slice.pair Ty.unit))).pair ((i64T).slice.pair Ty.unit))))))) 0 true [([112, 101, 114, 109], 7, 0, 0, [], (0, [], [], PUnit.unit), [p0, p1], PUnit.unit)]), (2, AObj.arr 9 Ty.str 0 false [[120]])])
      else 
        bif countE [a0, a1] != 0 then some (AEnd.ret [(AV.d Ty.str []).pr ((I 0).pr (AV.nils.pr (AV.d Ty.unit PUnit.unit))), I (countE [a0, a1])], [(0, AObj.arr 25 ((i64T).pair ((i64T).slice.pair ((i64T).slice.pair Ty.unit))) 0 false [(t, [a0, a1], x, PUnit.unit)]), (1, AObj.arr 37 (Ty.str.pair ((i64T).pair ((i64T).pair ((i64T).pair (Ty.str.pair (((i64T).pair ((i64T).slice.pair ((i64T).slice.pair Ty.unit))).pair ((i64T).slice.pair Ty.unit))))))) 0 true [([112, 101, 114, 109], 7, 0, 0, [], (0, [], [], PUnit.unit), [p0, p1], PUnit.unit)]), (2, AObj.arr 9 Ty.str 0 false [[120]])])
        else 
          bif t == 6 then 
            bif numC 2 0 1 [p0, p1] then (idx [a0, a1] p0).bind fun v6 =>
                bif p1 == p0 then some (AEnd.ret [(AV.d Ty.str []).pr ((I 0).pr (AV.nils.pr (AV.d Ty.unit PUnit.unit))), I 4], [(0, AObj.arr 25 ((i64T).pair ((i64T).slice.pair ((i64T).slice.pair Ty.unit))) 0 false [(t, [a0, a1], x, PUnit.unit)]), (1, AObj.arr 37 (Ty.str.pair ((i64T).pair ((i64T).pair ((i64T).pair (Ty.str.pair (((i64T).pair ((i64T).slice.pair ((i64T).slice.pair Ty.unit))).pair ((i64T).slice.pair Ty.unit))))))) 0 true [([112, 101, 114, 109], 7, 0, 0, [], (0, [], [], PUnit.unit), [p0, p1], PUnit.unit)]), (2, AObj.arr 9 Ty.str 0 false [[120]])])
                else (idx [a0, a1] p1).bind fun v8 =>
                    bif countE [v6, v8] != 0 then some (AEnd.ret [(AV.d Ty.str []).pr ((I 0).pr (AV.nils.pr (AV.d Ty.unit PUnit.unit))), I (countE [v6, v8])], [(0, AObj.arr 25 ((i64T).pair ((i64T).slice.pair ((i64T).slice.pair Ty.unit))) 0 false [(t, [a0, a1], x, PUnit.unit)]), (1, AObj.arr 37 (Ty.str.pair ((i64T).pair ((i64T).pair ((i64T).pair (Ty.str.pair (((i64T).pair ((i64T).slice.pair ((i64T).slice.pair Ty.unit))).pair ((i64T).slice.pair Ty.unit))))))) 0 true [([112, 101, 114, 109], 7, 0, 0, [], (0, [], [], PUnit.unit), [p0, p1], PUnit.unit)]), (2, AObj.arr 9 Ty.str 0 false [[120]])])
                    else some (AEnd.ret [(AV.d Ty.str [121]).pr ((I t).pr ((AV.os 3 0).pr (AV.d Ty.unit PUnit.unit))), I 0], [(0, AObj.arr 25 ((i64T).pair ((i64T).slice.pair ((i64T).slice.pair Ty.unit))) 0 false [(t, [a0, a1], x, PUnit.unit)]), (1, AObj.arr 37 (Ty.str.pair ((i64T).pair ((i64T).pair ((i64T).pair (Ty.str.pair (((i64T).pair ((i64T).slice.pair ((i64T).slice.pair Ty.unit))).pair ((i64T).slice.pair Ty.unit))))))) 0 true [([112, 101, 114, 109], 7, 0, 0, [], (0, [], [], PUnit.unit), [p0, p1], PUnit.unit)]), (2, AObj.arr 9 Ty.str 0 false [[120]]), (3, AObj.arr 3 (i64T) 0 false [v6, v8])])
            else some (AEnd.ret [(AV.d Ty.str []).pr ((I 0).pr (AV.nils.pr (AV.d Ty.unit PUnit.unit))), I 4], [(0, AObj.arr 25 ((i64T).pair ((i64T).slice.pair ((i64T).slice.pair Ty.unit))) 0 false [(t, [a0, a1], x, PUnit.unit)]), (1, AObj.arr 37 (Ty.str.pair ((i64T).pair ((i64T).pair ((i64T).pair (Ty.str.pair (((i64T).pair ((i64T).slice.pair ((i64T).slice.pair Ty.unit))).pair ((i64T).slice.pair Ty.unit))))))) 0 true [([112, 101, 114, 109], 7, 0, 0, [], (0, [], [], PUnit.unit), [p0, p1], PUnit.unit)]), (2, AObj.arr 9 Ty.str 0 false [[120]])])
          else 
            bif numC 2 0 1 [p0, p1] then (idx [a0, a1] p0).bind fun v6 =>
                bif p1 == p0 then some (AEnd.ret [(AV.d Ty.str []).pr ((I 0).pr (AV.nils.pr (AV.d Ty.unit PUnit.unit))), I 4], [(0, AObj.arr 25 ((i64T).pair ((i64T).slice.pair ((i64T).slice.pair Ty.unit))) 0 false [(t, [a0, a1], x, PUnit.unit)]), (1, AObj.arr 37 (Ty.str.pair ((i64T).pair ((i64T).pair ((i64T).pair (Ty.str.pair (((i64T).pair ((i64T).slice.pair ((i64T).slice.pair Ty.unit))).pair ((i64T).slice.pair Ty.unit))))))) 0 true [([112, 101, 114, 109], 7, 0, 0, [], (0, [], [], PUnit.unit), [p0, p1], PUnit.unit)]), (2, AObj.arr 9 Ty.str 0 false [[120]])])
                else (idx [a0, a1] p1).bind fun v8 =>
                    bif countE [v6, v8] != 0 then some (AEnd.ret [(AV.d Ty.str []).pr ((I 0).pr (AV.nils.pr (AV.d Ty.unit PUnit.unit))), I (countE [v6, v8])], [(0, AObj.arr 25 ((i64T).pair ((i64T).slice.pair ((i64T).slice.pair Ty.unit))) 0 false [(t, [a0, a1], x, PUnit.unit)]), (1, AObj.arr 37 (Ty.str.pair ((i64T).pair ((i64T).pair ((i64T).pair (Ty.str.pair (((i64T).pair ((i64T).slice.pair ((i64T).slice.pair Ty.unit))).pair ((i64T).slice.pair Ty.unit))))))) 0 true [([112, 101, 114, 109], 7, 0, 0, [], (0, [], [], PUnit.unit), [p0, p1], PUnit.unit)]), (2, AObj.arr 9 Ty.str 0 false [[120]])])
                    else some (AEnd.ret [(AV.d Ty.str [121]).pr ((I t).pr ((AV.os 3 0).pr (AV.d Ty.unit PUnit.unit))), I 0], [(0, AObj.arr 25 ((i64T).pair ((i64T).slice.pair ((i64T).slice.pair Ty.unit))) 0 false [(t, [a0, a1], x, PUnit.unit)]), (1, AObj.arr 37 (Ty.str.pair ((i64T).pair ((i64T).pair ((i64T).pair (Ty.str.pair (((i64T).pair ((i64T).slice.pair ((i64T).slice.pair Ty.unit))).pair ((i64T).slice.pair Ty.unit))))))) 0 true [([112, 101, 114, 109], 7, 0, 0, [], (0, [], [], PUnit.unit), [p0, p1], PUnit.unit)]), (2, AObj.arr 9 Ty.str 0 false [[120]]), (3, AObj.arr 3 (i64T) 0 false [v6, v8])])
            else some (AEnd.ret [(AV.d Ty.str []).pr ((I 0).pr (AV.nils.pr (AV.d Ty.unit PUnit.unit))), I 4], [(0, AObj.arr 25 ((i64T).pair ((i64T).slice.pair ((i64T).slice.pair Ty.unit))) 0 false [(t, [a0, a1], x, PUnit.unit)]), (1, AObj.arr 37 (Ty.str.pair ((i64T).pair ((i64T).pair ((i64T).pair (Ty.str.pair (((i64T).pair ((i64T).slice.pair ((i64T).slice.pair Ty.unit))).pair ((i64T).slice.pair Ty.unit))))))) 0 true [([112, 101, 114, 109], 7, 0, 0, [], (0, [], [], PUnit.unit), [p0, p1], PUnit.unit)]), (2, AObj.arr 9 Ty.str 0 false [[120]])])
  else none := by kernel_rfl
theorem mh3_eq (t a0 a1 a2 p0 p1 p2 : Int) (x : List Int) : runC gBh Tryz.f42 6 [(3, [2, 4, 6, 9, 10, 11])] [nodeA strTR [] [121] (.os 2 0) (.os 1 0), .os 0 0] (hpTb false t [a0, a1, a2] x [lattr strPerm [p0, p1, p2]]) ah =
  bif decide (3 ≤ 9223372036854775807 ∧ x.length ≤ 9223372036854775807) then 
    bif tenE t [a0, a1, a2] x != 0 then some (AEnd.ret [(AV.d Ty.str []).pr ((I 0).pr (AV.nils.pr (AV.d Ty.unit PUnit.unit))), I 1], [(0, AObj.arr 25 ((i64T).pair ((i64T).slice.pair ((i64T).slice.pair Ty.unit))) 0 false [(t, [a0, a1, a2], x, PUnit.unit)]), (1, AObj.arr 37 (Ty.str.pair ((i64T).pair ((i64T).pair ((i64T).pair (Ty.str.pair (((i64T).pair ((i64T).slice.pair ((i64T).slice.pair Ty.unit))).pair ((i64T).slice.pair Ty.unit))))))) 0 false [([112, 101, 114, 109], 7, 0, 0, [], (0, [], [], PUnit.unit), [p0, p1, p2], PUnit.unit)]), (2, AObj.arr 9 Ty.str 0 false [[120]])])
    else 
      bif !numOk t 0 then some (AEnd.ret [(AV.d Ty.str []).pr ((I 0).pr (AV.nils.pr (AV.d Ty.unit PUnit.unit))), I 5], [(0, AObj.arr 25 ((i64T).pair ((i64T).slice.pair ((i64T).slice.pair Ty.unit))) 0 false [(t, [a0, a1, a2], x, PUnit.unit)]), (1, AObj.arr 37 (Ty.str.pair ((i64T).pair ((i64T).pair ((i64T).pair (Ty.str.pair (((i64T).pair ((i64T).slice.pair ((i64T).slice.pair Ty.unit))).pair ((i64T).slice.pair Ty.unit))))))) 0 true [([112, 101, 114, 109], 7, 0, 0, [], (0, [], [], PUnit.unit), [p0, p1, p2], PUnit.unit)]), (2, AObj.arr 9 Ty.str 0 false [[120]])])
      else 
        bif countE [a0, a1, a2] != 0 then some (AEnd.ret [(AV.d Ty.str []).pr ((I 0).pr (AV.nils.pr (AV.d Ty.unit PUnit.unit))), I (countE [a0, a1, a2])], [(0, AObj.arr 25 ((i64T).pair ((i64T).slice.pair ((i64T).slice.pair Ty.unit))) 0 false [(t, [a0, a1, a2], x, PUnit.unit)]), (1, AObj.arr 37 (Ty.str.pair ((i64T).pair ((i64T).pair ((i64T).pair (Ty.str.pair (((i64T).pair ((i64T).slice.pair ((i64T).slice.pair Ty.unit))).pair ((i64T).slice.pair Ty.unit))))))) 0 true [([112, 101, 114, 109], 7, 0, 0, [], (0, [], [], PUnit.unit), [p0, p1, p2], PUnit.unit)]), (2, AObj.arr 9 Ty.str 0 false [[120]])])
        else 
          bif t == 6 then 
            bif numC 3 0 2 [p0, p1, p2] then (idx [a0, a1, a2] p0).bind fun v6 =>
                bif p1 == p0 then some (AEnd.ret [(AV.d Ty.str []).pr ((I 0).pr (AV.nils.pr (AV.d Ty.unit PUnit.unit))), I 4], [(0, AObj.arr 25 ((i64T).pair ((i64T).slice.pair ((i64T).slice.pair Ty.unit))) 0 false [(t, [a0, a1, a2], x, PUnit.unit)]), (1, AObj.arr 37 (Ty.str.pair ((i64T).pair ((i64T).pair ((i64T).pair (Ty.str.pair (((i64T).pair ((i64T).slice.pair ((i64T).slice.pair Ty.unit))).pair ((i64T).slice.pair Ty.unit))))))) 0 true [([112, 101, 114, 109], 7, 0, 0, [], (0, [], [], PUnit.unit), [p0, p1, p2], PUnit.unit)]), (2, AObj.arr 9 Ty.str 0 false [[120]])])
                else (idx [a0, a1, a2] p1).bind fun v8 =>
                    bif p2 == p0 then some (AEnd.ret [(AV.d Ty.str []).pr ((I 0).pr (AV.nils.pr (AV.d Ty.unit PUnit.unit))), I 4], [(0, AObj.arr 25 ((i64T).pair ((i64T).slice.pair ((i64T).slice.pair Ty.unit))) 0 false [(t, [a0, a1, a2], x, PUnit.unit)]), (1, AObj.arr 37 (Ty.str.pair ((i64T).pair ((i64T).pair ((i64T).pair (Ty.str.pair (((i64T).pair ((i64T).slice.pair ((i64T).slice.pair Ty.unit))).pair ((i64T).slice.pair Ty.unit))))))) 0 true [([112, 101, 114, 109], 7, 0, 0, [], (0, [], [], PUnit.unit), [p0, p1, p2], PUnit.unit)]), (2, AObj.arr 9 Ty.str 0 false [[120]])])
                    else 
                      bif p2 == p1 then some (AEnd.ret [(AV.d Ty.str []).pr ((I 0).pr (AV.nils.pr (AV.d Ty.unit PUnit.unit))), I 4], [(0, AObj.arr 25 ((i64T).pair ((i64T).slice.pair ((i64T).slice.pair Ty.unit))) 0 false [(t, [a0, a1, a2], x, PUnit.unit)]), (1, AObj.arr 37 (Ty.str.pair ((i64T).pair ((i64T).pair ((i64T).pair (Ty.str.pair (((i64T).pair ((i64T).slice.pair ((i64T).slice.pair Ty.unit))).pair ((i64T).slice.pair Ty.unit))))))) 0 true [([112, 101, 114, 109], 7, 0, 0, [], (0, [], [], PUnit.unit), [p0, p1, p2], PUnit.unit)]), (2, AObj.arr 9 Ty.str 0 false [[120]])])
                      else (idx [a0, a1, a2] p2).bind fun v11 =>
                          bif countE [v6, v8, v11] != 0 then some (AEnd.ret [(AV.d Ty.str []).pr ((I 0).pr (AV.nils.pr (AV.d Ty.unit PUnit.unit))), I (countE [v6, v8, v11])], [(0, AObj.arr 25 ((i64T).pair ((i64T).slice.pair ((i64T).slice.pair Ty.unit))) 0 false [(t, [a0, a1, a2], x, PUnit.unit)]), (1, AObj.arr 37 (Ty.str.pair ((i64T).pair ((i64T).pair ((i64T).pair (Ty.str.pair (((i64T).pair ((i64T).slice.pair ((i64T).slice.pair Ty.unit))).pair ((i64T).slice.pair Ty.unit))))))) 0 true [([112, 101, 114, 109], 7, 0, 0, [], (0, [], [], PUnit.unit), [p0, p1, p2], PUnit.unit)]), (2, AObj.arr 9 Ty.str 0 false [[120]])])
                          else some (AEnd.ret [(AV.d Ty.str [121]).pr ((I t).pr ((AV.os 3 0).pr (AV.d Ty.unit PUnit.unit))), I 0], [(0, AObj.arr 25 ((i64T).pair ((i64T).slice.pair ((i64T).slice.pair Ty.unit))) 0 false [(t, [a0, a1, a2], x, PUnit.unit)]), (1, AObj.arr 37 (Ty.str.pair ((i64T).pair ((i64T).pair ((i64T).pair (Ty.str.pair (((i64T).pair ((i64T).slice.pair ((i64T).slice.pair Ty.unit))).pair ((i64T).slice.pair Ty.unit))))))) 0 true [([112, 101, 114, 109], 7, 0, 0, [], (0, [], [], PUnit.unit), [p0, p1, p2], PUnit.unit)]), (2, AObj.arr 9 Ty.str 0 false [[120]]), (3, AObj.arr 3 (i64T) 0 false [v6, v8, v11])])
            else some (AEnd.ret [(AV.d Ty.str []).pr ((I 0).pr (AV.nils.pr (AV.d Ty.unit PUnit.unit))), I 4], [(0, AObj.arr 25 ((i64T).pair ((i64T).slice.pair ((i64T).slice.pair Ty.unit))) 0 false [(t, [a0, a1, a2], x, PUnit.unit)]), (1, AObj.arr 37 (Ty.str.pair ((i64T).pair ((i64T).pair ((i64T).pair (Ty.str.pair (((i64T).pair ((i64T).slice.pair ((i64T).slice.pair Ty.unit))).pair ((i64T).slice.pair Ty.unit))))))) 0 true [([112, 101, 114, 109], 7, 0, 0, [], (0, [], [], PUnit.unit), [p0, p1, p2], PUnit.unit)]), (2, AObj.arr 9 Ty.str 0 false [[120]])])
          else 
            bif numC 3 0 2 [p0, p1, p2] then (idx [a0, a1, a2] p0).bind fun v6 =>
                bif p1 == p0 then some (AEnd.ret [(AV.d Ty.str []).pr ((I 0).pr (AV.nils.pr (AV.d Ty.unit PUnit.unit))), I 4], [(0, AObj.arr 25 ((i64T).pair ((i64T).slice.pair ((i64T).slice.pair Ty.unit))) 0 false [(t, [a0, a1, a2], x, PUnit.unit)]), (1, AObj.arr 37 (Ty.str.pair ((i64T).pair ((i64T).pair ((i64T).pair (Ty.str.pair (((i64T).pair ((i64T).slice.pair ((i64T).slice.pair Ty.unit))).pair ((i64T).slice.pair Ty.unit))))))) 0 true [([112, 101, 114, 109], 7, 0, 0, [], (0, [], [], PUnit.unit), [p0, p1, p2], PUnit.unit)]), (2, AObj.arr 9 Ty.str 0 false [[120]])])
                else (idx [a0, a1, a2] p1).bind fun v8 =>
                    bif p2 == p0 then some (AEnd.ret [(AV.d Ty.str []).pr ((I 0).pr (AV.nils.pr (AV.d Ty.unit PUnit.unit))), I 4], [(0, AObj.arr 25 ((i64T).pair ((i64T).slice.pair ((i64T).slice.pair Ty.unit))) 0 false [(t, [a0, a1, a2], x, PUnit.unit)]), (1, AObj.arr 37 (Ty.str.pair ((i64T).pair ((i64T).pair ((i64T).pair (Ty.str.pair (((i64T).pair ((i64T).slice.pair ((i64T).slice.pair Ty.unit))).pair ((i64T).slice.pair Ty.unit))))))) 0 true [([112, 101, 114, 109], 7, 0, 0, [], (0, [], [], PUnit.unit), [p0, p1, p2], PUnit.unit)]), (2, AObj.arr 9 Ty.str 0 false [[120]])])
                    else 
                      bif p2 == p1 then some (AEnd.ret [(AV.d Ty.str []).pr ((I 0).pr (AV.nils.pr (AV.d Ty.unit PUnit.unit))), I 4], [(0, AObj.arr 25 ((i64T).pair ((i64T).slice.pair ((i64T).slice.pair Ty.unit))) 0 false [(t, [a0, a1, a2], x, PUnit.unit)]), (1, AObj.arr 37 (Ty.str.pair ((i64T).pair ((i64T).pair ((i64T).pair (Ty.str.pair (((i64T).pair ((i64T).slice.pair ((i64T).slice.pair Ty.unit))).pair ((i64T).slice.pair Ty.unit))))))) 0 true [([112, 101, 114, 109], 7, 0, 0, [], (0, [], [], PUnit.unit), [p0, p1, p2], PUnit.unit)]), (2, AObj.arr 9 Ty.str 0 false [[120]])])
                      else (idx [a0, a1, a2] p2).bind fun v11 =>
                          bif countE [v6, v8, v11] != 0 then some (AEnd.ret [(AV.d Ty.str []).pr ((I 0).pr (AV.nils.pr (AV.d Ty.unit PUnit.unit))), I (countE [v6, v8, v11])], [(0, AObj.arr 25 ((i64T).pair ((i64T).slice.pair ((i64T).slice.pair Ty.unit))) 0 false [(t, [a0, a1, a2], x, PUnit.unit)]), (1, AObj.arr 37 (Ty.str.pair ((i64T).pair ((i64T).pair ((i64T).pair (Ty.str.pair (((i64T).pair ((i64T).slice.pair ((i64T).slice.pair Ty.unit))).pair ((i64T).slice.pair Ty.unit))))))) 0 true [([112, 101, 114, 109], 7, 0, 0, [], (0, [], [], PUnit.unit), [p0, p1, p2], PUnit.unit)]), (2, AObj.arr 9 Ty.str 0 false [[120]])])
                          else some (AEnd.ret [(AV.d Ty.str [121]).pr ((I t).pr ((AV.os 3 0).pr (AV.d Ty.unit PUnit.unit))), I 0], [(0, AObj.arr 25 ((i64T).pair ((i64T).slice.pair ((i64T).slice.pair Ty.unit))) 0 false [(t, [a0, a1, a2], x, PUnit.unit)]), (1, AObj.arr 37 (Ty.str.pair ((i64T).pair ((i64T).pair ((i64T).pair (Ty.str.pair (((i64T).pair ((i64T).slice.pair ((i64T).slice.pair Ty.unit))).pair ((i64T).slice.pair Ty.unit))))))) 0 true [([112, 101, 114, 109], 7, 0, 0, [], (0, [], [], PUnit.unit), [p0, p1, p2], PUnit.unit)]), (2, AObj.arr 9 Ty.str 0 false [[120]]), (3, AObj.arr 3 (i64T) 0 false [v6, v8, v11])])
            else some (AEnd.ret [(AV.d Ty.str []).pr ((I 0).pr (AV.nils.pr (AV.d Ty.unit PUnit.unit))), I 4], [(0, AObj.arr 25 ((i64T).pair ((i64T).slice.pair ((i64T).slice.pair Ty.unit))) 0 false [(t, [a0, a1, a2], x, PUnit.unit)]), (1, AObj.arr 37 (Ty.str.pair ((i64T).pair ((i64T).pair ((i64T).pair (Ty.str.pair (((i64T).pair ((i64T).slice.pair ((i64T).slice.pair Ty.unit))).pair ((i64T).slice.pair Ty.unit))))))) 0 true [([112, 101, 114, 109], 7, 0, 0, [], (0, [], [], PUnit.unit), [p0, p1, p2], PUnit.unit)]), (2, AObj.arr 9 Ty.str 0 false [[120]])])
  else none := by kernel_rfl
theorem mh4_eq (t a0 a1 a2 a3 p0 p1 p2 p3 : Int) (x : List Int) : runC gBh Tryz.f42 6 [(3, [2, 4, 6, 9, 10, 11])] [nodeA strTR [] [121] (.os 2 0) (.os 1 0), .os 0 0] (hpTb false t [a0, a1, a2, a3] x [lattr strPerm [p0, p1, p2, p3]]) ah =
  bif decide (4 ≤ 9223372036854775807 ∧ x.length ≤ 9223372036854775807) then 
    bif tenE t [a0, a1, a2, a3] x != 0 then some (AEnd.ret [(AV.d Ty.str []).pr ((I 0).pr (AV.nils.pr (AV.d Ty.unit PUnit.unit))), I 1], [(0, AObj.arr 25 ((i64T).pair ((i64T).slice.pair ((i64T).slice.pair Ty.unit))) 0 false [(t, [a0, a1, a2, a3], x, PUnit.unit)]), (1, AObj.arr 37 (Ty.str.pair ((i64T).pair ((i64T).pair ((i64T).pair (Ty.str.pair (((i64T).pair ((i64T).slice.pair ((i64T).slice.pair Ty.unit))).pair ((i64T).slice.pair Ty.unit))))))) 0 false [([112, 101, 114, 109], 7, 0, 0, [], (0, [], [], PUnit.unit), [p0, p1, p2, p3], PUnit.unit)]), (2, AObj.arr 9 Ty.str 0 false [[120]])])
    else 
      bif !numOk t 0 then some (AEnd.ret [(AV.d Ty.str []).pr ((I 0).pr (AV.nils.pr (AV.d Ty.unit PUnit.unit))), I 5], [(0, AObj.arr 25 ((i64T).pair ((i64T).slice.pair ((i64T).slice.pair Ty.unit))) 0 false [(t, [a0, a1, a2, a3], x, PUnit.unit)]), (1, AObj.arr 37 (Ty.str.pair ((i64T).pair ((i64T).pair ((i64T).pair (Ty.str.pair (((i64T).pair ((i64T).slice.pair ((i64T).slice.pair Ty.unit))).pair ((i64T).slice.pair Ty.unit))))))) 0 true [([112, 101, 114, 109], 7, 0, 0, [], (0, [], [], PUnit.unit), [p0, p1, p2, p3], PUnit.unit)]), (2, AObj.arr 9 Ty.str 0 false [[120]])])
      else 
        bif countE [a0, a1, a2, a3] != 0 then some (AEnd.ret [(AV.d Ty.str []).pr ((I 0).pr (AV.nils.pr (AV.d Ty.unit PUnit.unit))), I (countE [a0, a1, a2, a3])], [(0, AObj.arr 25 ((i64T).pair ((i64T).slice.pair ((i64T).slice.pair Ty.unit))) 0 false [(t, [a0, a1, a2, a3], x, PUnit.unit)]), (1, AObj.arr 37 (Ty.str.pair ((i64T).pair ((i64T).pair ((i64T).pair (Ty.str.pair (((i64T).pair ((i64T).slice.pair ((i64T).slice.pair Ty.unit))).pair ((i64T).slice.pair Ty.unit))))))) 0 true [([112, 101, 114, 109], 7, 0, 0, [], (0, [], [], PUnit.unit), [p0, p1, p2, p3], PUnit.unit)]), (2, AObj.arr 9 Ty.str 0 false [[120]])])
        else 
          bif t == 6 then 
            bif numC 4 0 3 [p0, p1, p2, p3] then (idx [a0, a1, a2, a3] p0).bind fun v6 =>
                bif p1 == p0 then some (AEnd.ret [(AV.d Ty.str []).pr ((I 0).pr (AV.nils.pr (AV.d Ty.unit PUnit.unit))), I 4], [(0, AObj.arr 25 ((i64T).pair ((i64T).slice.pair ((i64T).slice.pair Ty.unit))) 0 false [(t, [a0, a1, a2, a3], x, PUnit.unit)]), (1, AObj.arr 37 (Ty.str.pair ((i64T).pair ((i64T).pair ((i64T).pair (Ty.str.pair (((i64T).pair ((i64T).slice.pair ((i64T).slice.pair Ty.unit))).pair ((i64T).slice.pair Ty.unit))))))) 0 true [([112, 101, 114, 109], 7, 0, 0, [], (0, [], [], PUnit.unit), [p0, p1, p2, p3], PUnit.unit)]), (2, AObj.arr 9 Ty.str 0 false [[120]])])
                else (idx [a0, a1, a2, a3] p1).bind fun v8 =>
                    bif p2 == p0 then some (AEnd.ret [(AV.d Ty.str []).pr ((I 0).pr (AV.nils.pr (AV.d Ty.unit PUnit.unit))), I 4], [(0, AObj.arr 25 ((i64T).pair ((i64T).slice.pair ((i64T).slice.pair Ty.unit))) 0 false [(t, [a0, a1, a2, a3], x, PUnit.unit)]), (1, AObj.arr 37 (Ty.str.pair ((i64T).pair ((i64T).pair ((i64T).pair (Ty.str.pair (((i64T).pair ((i64T).slice.pair ((i64T).slice.pair Ty.unit))).pair ((i64T).slice.pair Ty.unit))))))) 0 true [([112, 101, 114, 109], 7, 0, 0, [], (0, [], [], PUnit.unit), [p0, p1, p2, p3], PUnit.unit)]), (2, AObj.arr 9 Ty.str 0 false [[120]])])
                    else 
                      bif p2 == p1 then some (AEnd.ret [(AV.d Ty.str []).pr ((I 0).pr (AV.nils.pr (AV.d Ty.unit PUnit.unit))), I 4], [(0, AObj.arr 25 ((i64T).pair ((i64T).slice.pair ((i64T).slice.pair Ty.unit))) 0 false [(t, [a0, a1, a2, a3], x, PUnit.unit)]), (1, AObj.arr 37 (Ty.str.pair ((i64T).pair ((i64T).pair ((i64T).pair (Ty.str.pair (((i64T).pair ((i64T).slice.pair ((i64T).slice.pair Ty.unit))).pair ((i64T).slice.pair Ty.unit))))))) 0 true [([112, 101, 114, 109], 7, 0, 0, [], (0, [], [], PUnit.unit), [p0, p1, p2, p3], PUnit.unit)]), (2, AObj.arr 9 Ty.str 0 false [[120]])])
                      else (idx [a0, a1, a2, a3] p2).bind fun v11 =>
                          bif p3 == p0 then some (AEnd.ret [(AV.d Ty.str []).pr ((I 0).pr (AV.nils.pr (AV.d Ty.unit PUnit.unit))), I 4], [(0, AObj.arr 25 ((i64T).pair ((i64T).slice.pair ((i64T).slice.pair Ty.unit))) 0 false [(t, [a0, a1, a2, a3], x, PUnit.unit)]), (1, AObj.arr 37 (Ty.str.pair ((i64T).pair ((i64T).pair ((i64T).pair (Ty.str.pair (((i64T).pair ((i64T).slice.pair ((i64T).slice.pair Ty.unit))).pair ((i64T).slice.pair Ty.unit))))))) 0 true [([112, 101, 114, 109], 7, 0, 0, [], (0, [], [], PUnit.unit), [p0, p1, p2, p3], PUnit.unit)]), (2, AObj.arr 9 Ty.str 0 false [[120]])])
                          else 
                            bif p3 == p1 then some (AEnd.ret [(AV.d Ty.str []).pr ((I 0).pr (AV.nils.pr (AV.d Ty.unit PUnit.unit))), I 4], [(0, AObj.arr 25 ((i64T).pair ((i64T).slice.pair ((i64T).slice.pair Ty.unit))) 0 false [(t, [a0, a1, a2, a3], x, PUnit.unit)]), (1, AObj.arr 37 (Ty.str.pair ((i64T).pair ((i64T).pair ((i64T).pair (Ty.str.pair (((i64T).pair ((i64T).slice.pair ((i64T).slice.pair Ty.unit))).pair ((i64T).slice.pair Ty.unit))))))) 0 true [([112, 101, 114, 109], 7, 0, 0, [], (0, [], [], PUnit.unit), [p0, p1, p2, p3], PUnit.unit)]), (2, AObj.arr 9 Ty.str 0 false [[120]])])
                            else 
                              bif p3 == p2 then some (AEnd.ret [(AV.d Ty.str []).pr ((I 0).pr (AV.nils.pr (AV.d Ty.unit PUnit.unit))), I 4], [(0, AObj.arr 25 ((i64T).pair ((i64T).slice.pair ((i64T).slice.pair Ty.unit))) 0 false [(t, [a0, a1, a2, a3], x, PUnit.unit)]), (1, AObj.arr 37 (Ty.str.pair ((i64T).pair ((i64T).pair ((i64T).pair (Ty.str.pair (((i64T).pair ((i64T).slice.pair ((i64T).slice.pair Ty.unit))).pair ((i64T).slice.pair Ty.unit))))))) 0 true [([112, 101, 114, 109], 7, 0, 0, [], (0, [], [], PUnit.unit), [p0, p1, p2, p3], PUnit.unit)]), (2, AObj.arr 9 Ty.str 0 false [[120]])])
                              else (idx [a0, a1, a2, a3] p3).bind fun v15 =>
                                  bif countE [v6, v8, v11, v15] != 0 then some (AEnd.ret [(AV.d Ty.str []).pr ((I 0).pr (AV.nils.pr (AV.d Ty.unit PUnit.unit))), I (countE [v6, v8, v11, v15])], [(0, AObj.arr 25 ((i64T).pair ((i64T).slice.pair ((i64T).slice.pair Ty.unit))) 0 false [(t, [a0, a1, a2, a3], x, PUnit.unit)]), (1, AObj.arr 37 (Ty.str.pair ((i64T).pair ((i64T).pair ((i64T).pair (Ty.str.pair (((i64T).pair ((i64T).slice.pair ((i64T).slice.pair Ty.unit))).pair ((i64T).slice.pair Ty.unit))))))) 0 true [([112, 101, 114, 109], 7, 0, 0, [], (0, [], [], PUnit.unit), [p0, p1, p2, p3], PUnit.unit)]), (2, AObj.arr 9 Ty.str 0 false [[120]])])
                                  else some (AEnd.ret [(AV.d Ty.str [121]).pr ((I t).pr ((AV.os 3 0).pr (AV.d Ty.unit PUnit.unit))), I 0], [(0, AObj.arr 25 ((i64T).pair ((i64T).slice.pair ((i64T).slice.pair Ty.unit))) 0 false [(t, [a0, a1, a2, a3], x, PUnit.unit)]), (1, AObj.arr 37 (Ty.str.pair ((i64T).pair ((i64T).pair ((i64T).pair (Ty.str.pair (((i64T).pair ((i64T).slice.pair ((i64T).slice.pair Ty.unit))).pair ((i64T).slice.pair Ty.unit))))))) 0 true [([112, 101, 114, 109], 7, 0, 0, [], (0, [], [], PUnit.unit), [p0, p1, p2, p3], PUnit.unit)]), (2, AObj.arr 9 Ty.str 0 false [[120]]), (3, AObj.arr 3 (i64T) 0 false [v6, v8, v11, v15])])
            else some (AEnd.ret [(AV.d Ty.str []).pr ((I 0).pr (AV.nils.pr (AV.d Ty.unit PUnit.unit))), I 4], [(0, AObj.arr 25 ((i64T).pair ((i64T).slice.pair ((i64T).slice.pair Ty.unit))) 0 false [(t, [a0, a1, a2, a3], x, PUnit.unit)]), (1, AObj.arr 37 (Ty.str.pair ((i64T).pair ((i64T).pair ((i64T).pair (Ty.str.pair (((i64T).pair ((i64T).slice.pair ((i64T).slice.pair Ty.unit))).pair ((i64T).slice.pair Ty.unit))))))) 0 true [([112, 101, 114, 109], 7, 0, 0, [], (0, [], [], PUnit.unit), [p0, p1, p2, p3], PUnit.unit)]), (2, AObj.arr 9 Ty.str 0 false [[120]])])
          else 
            bif numC 4 0 3 [p0, p1, p2, p3] then (idx [a0, a1, a2, a3] p0).bind fun v6 =>
                bif p1 == p0 then some (AEnd.ret [(AV.d Ty.str []).pr ((I 0).pr (AV.nils.pr (AV.d Ty.unit PUnit.unit))), I 4], [(0, AObj.arr 25 ((i64T).pair ((i64T).slice.pair ((i64T).slice.pair Ty.unit))) 0 false [(t, [a0, a1, a2, a3], x, PUnit.unit)]), (1, AObj.arr 37 (Ty.str.pair ((i64T).pair ((i64T).pair ((i64T).pair (Ty.str.pair (((i64T).pair ((i64T).slice.pair ((i64T).slice.pair Ty.unit))).pair ((i64T).slice.pair Ty.unit))))))) 0 true [([112, 101, 114, 109], 7, 0, 0, [], (0, [], [], PUnit.unit), [p0, p1, p2, p3], PUnit.unit)]), (2, AObj.arr 9 Ty.str 0 false [[120]])])
                else (idx [a0, a1, a2, a3] p1).bind fun v8 =>
                    bif p2 == p0 then some (AEnd.ret [(AV.d Ty.str []).pr ((I 0).pr (AV.nils.pr (AV.d Ty.unit PUnit.unit))), I 4], [(0, AObj.arr 25 ((i64T).pair ((i64T).slice.pair ((i64T).slice.pair Ty.unit))) 0 false [(t, [a0, a1, a2, a3], x, PUnit.unit)]), (1, AObj.arr 37 (Ty.str.pair ((i64T).pair ((i64T).pair ((i64T).pair (Ty.str.pair (((i64T).pair ((i64T).slice.pair ((i64T).slice.pair Ty.unit))).pair ((i64T).slice.pair Ty.unit))))))) 0 true [([112, 101, 114, 109], 7, 0, 0, [], (0, [], [], PUnit.unit), [p0, p1, p2, p3], PUnit.unit)]), (2, AObj.arr 9 Ty.str 0 false [[120]])])
                    else 
                      bif p2 == p1 then some (AEnd.ret [(AV.d Ty.str []).pr ((I 0).pr (AV.nils.pr (AV.d Ty.unit PUnit.unit))), I 4], [(0, AObj.arr 25 ((i64T).pair ((i64T).slice.pair ((i64T).slice.pair Ty.unit))) 0 false [(t, [a0, a1, a2, a3], x, PUnit.unit)]), (1, AObj.arr 37 (Ty.str.pair ((i64T).pair ((i64T).pair ((i64T).pair (Ty.str.pair (((i64T).pair ((i64T).slice.pair ((i64T).slice.pair Ty.unit))).pair ((i64T).slice.pair Ty.unit))))))) 0 true [([112, 101, 114, 109], 7, 0, 0, [], (0, [], [], PUnit.unit), [p0, p1, p2, p3], PUnit.unit)]), (2, AObj.arr 9 Ty.str 0 false [[120]])])
                      else (idx [a0, a1, a2, a3] p2).bind fun v11 =>
                          bif p3 == p0 then some (AEnd.ret [(AV.d Ty.str []).pr ((I 0).pr (AV.nils.pr (AV.d Ty.unit PUnit.unit))), I 4], [(0, AObj.arr 25 ((i64T).pair ((i64T).slice.pair ((i64T).slice.pair Ty.unit))) 0 false [(t, [a0, a1, a2, a3], x, PUnit.unit)]), (1, AObj.arr 37 (Ty.str.pair ((i64T).pair ((i64T).pair ((i64T).pair (Ty.str.pair (((i64T).pair ((i64T).slice.pair ((i64T).slice.pair Ty.unit))).pair ((i64T).slice.pair Ty.unit))))))) 0 true [([112, 101, 114, 109], 7, 0, 0, [], (0, [], [], PUnit.unit), [p0, p1, p2, p3], PUnit.unit)]), (2, AObj.arr 9 Ty.str 0 false [[120]])])
                          else 
                            bif p3 == p1 then some (AEnd.ret [(AV.d Ty.str []).pr ((I 0).pr (AV.nils.pr (AV.d Ty.unit PUnit.unit))), I 4], [(0, AObj.arr 25 ((i64T).pair ((i64T).slice.pair ((i64T).slice.pair Ty.unit))) 0 false [(t, [a0, a1, a2, a3], x, PUnit.unit)]), (1, AObj.arr 37 (Ty.str.pair ((i64T).pair ((i64T).pair ((i64T).pair (Ty.str.pair (((i64T).pair ((i64T).slice.pair ((i64T).slice.pair Ty.unit))).pair ((i64T).slice.pair Ty.unit))))))) 0 true [([112, 101, 114, 109], 7, 0, 0, [], (0, [], [], PUnit.unit), [p0, p1, p2, p3], PUnit.unit)]), (2, AObj.arr 9 Ty.str 0 false [[120]])])
                            else 
                              bif p3 == p2 then some (AEnd.ret [(AV.d Ty.str []).pr ((I 0).pr (AV.nils.pr (AV.d Ty.unit PUnit.unit))), I 4], [(0, AObj.arr 25 ((i64T).pair ((i64T).slice.pair ((i64T).slice.pair Ty.unit))) 0 false [(t, [a0, a1, a2, a3], x, PUnit.unit)]), (1, AObj.arr 37 (Ty.str.pair ((i64T).pair ((i64T).pair ((i64T).pair (Ty.str.pair (((i64T).pair ((i64T).slice.pair ((i64T).slice.pair Ty.unit))).pair ((i64T).slice.pair Ty.unit))))))) 0 true [([112, 101, 114, 109], 7, 0, 0, [], (0, [], [], PUnit.unit), [p0, p1, p2, p3], PUnit.unit)]), (2, AObj.arr 9 Ty.str 0 false [[120]])])
                              else (idx [a0, a1, a2, a3] p3).bind fun v15 =>
                                  bif countE [v6, v8, v11, v15] != 0 then some (AEnd.ret [(AV.d Ty.str []).pr ((I 0).pr (AV.nils.pr (AV.d Ty.unit PUnit.unit))), I (countE [v6, v8, v11, v15])], [(0, AObj.arr 25 ((i64T).pair ((i64T).slice.pair ((i64T).slice.pair Ty.unit))) 0 false [(t, [a0, a1, a2, a3], x, PUnit.unit)]), (1, AObj.arr 37 (Ty.str.pair ((i64T).pair ((i64T).pair ((i64T).pair (Ty.str.pair (((i64T).pair ((i64T).slice.pair ((i64T).slice.pair Ty.unit))).pair ((i64T).slice.pair Ty.unit))))))) 0 true [([112, 101, 114, 109], 7, 0, 0, [], (0, [], [], PUnit.unit), [p0, p1, p2, p3], PUnit.unit)]), (2, AObj.arr 9 Ty.str 0 false [[120]])])
                                  else some (AEnd.ret [(AV.d Ty.str [121]).pr ((I t).pr ((AV.os 3 0).pr (AV.d Ty.unit PUnit.unit))), I 0], [(0, AObj.arr 25 ((i64T).pair ((i64T).slice.pair ((i64T).slice.pair Ty.unit))) 0 false [(t, [a0, a1, a2, a3], x, PUnit.unit)]), (1, AObj.arr 37 (Ty.str.pair ((i64T).pair ((i64T).pair ((i64T).pair (Ty.str.pair (((i64T).pair ((i64T).slice.pair ((i64T).slice.pair Ty.unit))).pair ((i64T).slice.pair Ty.unit))))))) 0 true [([112, 101, 114, 109], 7, 0, 0, [], (0, [], [], PUnit.unit), [p0, p1, p2, p3], PUnit.unit)]), (2, AObj.arr 9 Ty.str 0 false [[120]]), (3, AObj.arr 3 (i64T) 0 false [v6, v8, v11, v15])])
            else some (AEnd.ret [(AV.d Ty.str []).pr ((I 0).pr (AV.nils.pr (AV.d Ty.unit PUnit.unit))), I 4], [(0, AObj.arr 25 ((i64T).pair ((i64T).slice.pair ((i64T).slice.pair Ty.unit))) 0 false [(t, [a0, a1, a2, a3], x, PUnit.unit)]), (1, AObj.arr 37 (Ty.str.pair ((i64T).pair ((i64T).pair ((i64T).pair (Ty.str.pair (((i64T).pair ((i64T).slice.pair ((i64T).slice.pair Ty.unit))).pair ((i64T).slice.pair Ty.unit))))))) 0 true [([112, 101, 114, 109], 7, 0, 0, [], (0, [], [], PUnit.unit), [p0, p1, p2, p3], PUnit.unit)]), (2, AObj.arr 9 Ty.str 0 false [[120]])])
  else none := by kernel_rfl
theorem mh5_eq (t a0 a1 a2 a3 a4 p0 p1 p2 p3 p4 : Int) (x : List Int) : runC gBh Tryz.f42 6 [(3, [2, 4, 6, 9, 10, 11])] [nodeA strTR [] [121] (.os 2 0) (.os 1 0), .os 0 0] (hpTb false t [a0, a1, a2, a3, a4] x [lattr strPerm [p0, p1, p2, p3, p4]]) ah =
  bif decide (5 ≤ 9223372036854775807 ∧ x.length ≤ 9223372036854775807) then 
    bif tenE t [a0, a1, a2, a3, a4] x != 0 then some (AEnd.ret [(AV.d Ty.str []).pr ((I 0).pr (AV.nils.pr (AV.d Ty.unit PUnit.unit))), I 1], [(0, AObj.arr 25 ((i64T).pair ((i64T).slice.pair ((i64T).slice.pair Ty.unit))) 0 false [(t, [a0, a1, a2, a3, a4], x, PUnit.unit)]), (1, AObj.arr 37 (Ty.str.pair ((i64T).pair ((i64T).pair ((i64T).pair (Ty.str.pair (((i64T).pair ((i64T).slice.pair ((i64T).slice.pair Ty.unit))).pair ((i64T).slice.pair Ty.unit))))))) 0 false [([112, 101, 114, 109], 7, 0, 0, [], (0, [], [], PUnit.unit), [p0, p1, p2, p3, p4], PUnit.unit)]), (2, AObj.arr 9 Ty.str 0 false [[120]])])
    else 
      bif !numOk t 0 then some (AEnd.ret [(AV.d Ty.str []).pr ((I 0).pr (AV.nils.pr (AV.d Ty.unit PUnit.unit))), I 5], [(0, AObj.arr 25 ((i64T).pair ((i64T).slice.pair ((i64T).slice.pair Ty.unit))) 0 false [(t, [a0, a1, a2, a3, a4], x, PUnit.unit)]), (1, AObj.arr 37 (Ty.str.pair ((i64T).pair ((i64T).pair ((i64T).pair (Ty.str.pair (((i64T).pair ((i64T).slice.pair ((i64T).slice.pair Ty.unit))).pair ((i64T).slice.pair Ty.unit))))))) 0 true [([112, 101, 114, 109], 7, 0, 0, [], (0, [], [], PUnit.unit), [p0, p1, p2, p3, p4], PUnit.unit)]), (2, AObj.arr 9 Ty.str 0 false [[120]])])
      else 
        bif countE [a0, a1, a2, a3, a4] != 0 then some (AEnd.ret [(AV.d Ty.str []).pr ((I 0).pr (AV.nils.pr (AV.d Ty.unit PUnit.unit))), I (countE [a0, a1, a2, a3, a4])], [(0, AObj.arr 25 ((i64T).pair ((i64T).slice.pair ((i64T).slice.pair Ty.unit))) 0 false [(t, [a0, a1, a2, a3, a4], x, PUnit.unit)]), (1, AObj.arr 37 (Ty.str.pair ((i64T).pair ((i64T).pair ((i64T).pair (Ty.str.pair (((i64T).pair ((i64T).slice.pair ((i64T).slice.pair Ty.unit))).pair ((i64T).slice.pair Ty.unit))))))) 0 true [([112, 101, 114, 109], 7, 0, 0, [], (0, [], [], PUnit.unit), [p0, p1, p2, p3, p4], PUnit.unit)]), (2, AObj.arr 9 Ty.str 0 false [[120]])])
        else 
          bif t == 6 then 
            bif numC 5 0 4 [p0, p1, p2, p3, p4] then (idx [a0, a1, a2, a3, a4] p0).bind fun v6 =>
                bif p1 == p0 then some (AEnd.ret [(AV.d Ty.str []).pr ((I 0).pr (AV.nils.pr (AV.d Ty.unit PUnit.unit))), I 4], [(0, AObj.arr 25 ((i64T).pair ((i64T).slice.pair ((i64T).slice.pair Ty.unit))) 0 false [(t, [a0, a1, a2, a3, a4], x, PUnit.unit)]), (1, AObj.arr 37 (Ty.str.pair ((i64T).pair ((i64T).pair ((i64T).pair (Ty.str.pair (((i64T).pair ((i64T).slice.pair ((i64T).slice.pair Ty.unit))).pair ((i64T).slice.pair Ty.unit))))))) 0 true [([112, 101, 114, 109], 7, 0, 0, [], (0, [], [], PUnit.unit), [p0, p1, p2, p3, p4], PUnit.unit)]), (2, AObj.arr 9 Ty.str 0 false [[120]])])
                else (idx [a0, a1, a2, a3, a4] p1).bind fun v8 =>
                    bif p2 == p0 then some (AEnd.ret [(AV.d Ty.str []).pr ((I 0).pr (AV.nils.pr (AV.d Ty.unit PUnit.unit))), I 4], [(0, AObj.arr 25 ((i64T).pair ((i64T).slice.pair ((i64T).slice.pair Ty.unit))) 0 false [(t, [a0, a1, a2, a3, a4], x, PUnit.unit)]), (1, AObj.arr 37 (Ty.str.pair ((i64T).pair ((i64T).pair ((i64T).pair (Ty.str.pair (((i64T).pair ((i64T).slice.pair ((i64T).slice.pair Ty.unit))).pair ((i64T).slice.pair Ty.unit))))))) 0 true [([112, 101, 114, 109], 7, 0, 0, [], (0, [], [], PUnit.unit), [p0, p1, p2, p3, p4], PUnit.unit)]), (2, AObj.arr 9 Ty.str 0 false [[120]])])
                    else 
                      bif p2 == p1 then some (AEnd.ret [(AV.d Ty.str []).pr ((I 0).pr (AV.nils.pr (AV.d Ty.unit PUnit.unit))), I 4], [(0, AObj.arr 25 ((i64T).pair ((i64T).slice.pair ((i64T).slice.pair Ty.unit))) 0 false [(t, [a0, a1, a2, a3, a4], x, PUnit.unit)]), (1, AObj.arr 37 (Ty.str.pair ((i64T).pair ((i64T).pair ((i64T).pair (Ty.str.pair (((i64T).pair ((i64T).slice.pair ((i64T).slice.pair Ty.unit))).pair ((i64T).slice.pair Ty.unit))))))) 0 true [([112, 101, 114, 109], 7, 0, 0, [], (0, [], [], PUnit.unit), [p0, p1, p2, p3, p4], PUnit.unit)]), (2, AObj.arr 9 Ty.str 0 false [[120]])])
                      else (idx [a0, a1, a2, a3, a4] p2).bind fun v11 =>
                          bif p3 == p0 then some (AEnd.ret [(AV.d Ty.str []).pr ((I 0).pr (AV.nils.pr (AV.d Ty.unit PUnit.unit))), I 4], [(0, AObj.arr 25 ((i64T).pair ((i64T).slice.pair ((i64T).slice.pair Ty.unit))) 0 false [(t, [a0, a1, a2, a3, a4], x, PUnit.unit)]), (1, AObj.arr 37 (Ty.str.pair ((i64T).pair ((i64T).pair ((i64T).pair (Ty.str.pair (((i64T).pair ((i64T).slice.pair ((i64T).slice.pair Ty.unit))).pair ((i64T).slice.pair Ty.unit))))))) 0 true [([112, 101, 114, 109], 7, 0, 0, [], (0, [], [], PUnit.unit), [p0, p1, p2, p3, p4], PUnit.unit)]), (2, AObj.arr 9 Ty.str 0 false [[120]])])
                          else 
                            bif p3 == p1 then some (AEnd.ret [(AV.d Ty.str []).pr ((I 0).pr (AV.nils.pr (AV.d Ty.unit PUnit.unit))), I 4], [(0, AObj.arr 25 ((i64T).pair ((i64T).slice.pair ((i64T).slice.pair Ty.unit))) 0 false [(t, [a0, a1, a2, a3, a4], x, PUnit.unit)]), (1, AObj.arr 37 (Ty.str.pair ((i64T).pair ((i64T).pair ((i64T).pair (Ty.str.pair (((i64T).pair ((i64T).slice.pair ((i64T).slice.pair Ty.unit))).pair ((i64T).slice.pair Ty.unit))))))) 0 true [([112, 101, 114, 109], 7, 0, 0, [], (0, [], [], PUnit.unit), [p0, p1, p2, p3, p4], PUnit.unit)]), (2, AObj.arr 9 Ty.str 0 false [[120]])])
                            else 
                              bif p3 == p2 then some (AEnd.ret [(AV.d Ty.str []).pr ((I 0).pr (AV.nils.pr (AV.d Ty.unit PUnit.unit))), I 4], [(0, AObj.arr 25 ((i64T).pair ((i64T).slice.pair ((i64T).slice.pair Ty.unit))) 0 false [(t, [a0, a1, a2, a3, a4], x, PUnit.unit)]), (1, AObj.arr 37 (Ty.str.pair ((i64T).pair ((i64T).pair ((i64T).pair (Ty.str.pair (((i64T).pair ((i64T).slice.pair ((i64T).slice.pair Ty.unit))).pair ((i64T).slice.pair Ty.unit))))))) 0 true [([112, 101, 114, 109], 7, 0, 0, [], (0, [], [], PUnit.unit), [p0, p1, p2, p3, p4], PUnit.unit)]), (2, AObj.arr 9 Ty.str 0 false [[120]])])
                              else (idx [a0, a1, a2, a3, a4] p3).bind fun v15 =>
                                  bif p4 == p0 then some (AEnd.ret [(AV.d Ty.str []).pr ((I 0).pr (AV.nils.pr (AV.d Ty.unit PUnit.unit))), I 4], [(0, AObj.arr 25 ((i64T).pair ((i64T).slice.pair ((i64T).slice.pair Ty.unit))) 0 false [(t, [a0, a1, a2, a3, a4], x, PUnit.unit)]), (1, AObj.arr 37 (Ty.str.pair ((i64T).pair ((i64T).pair ((i64T).pair (Ty.str.pair (((i64T).pair ((i64T).slice.pair ((i64T).slice.pair Ty.unit))).pair ((i64T).slice.pair Ty.unit))))))) 0 true [([112, 101, 114, 109], 7, 0, 0, [], (0, [], [], PUnit.unit), [p0, p1, p2, p3, p4], PUnit.unit)]), (2, AObj.arr 9 Ty.str 0 false [[120]])])
                                  else 
                                    bif p4 == p1 then some (AEnd.ret [(AV.d Ty.str []).pr ((I 0).pr (AV.nils.pr (AV.d Ty.unit PUnit.unit))), I 4], [(0, AObj.arr 25 ((i64T).pair ((i64T).slice.pair ((i64T).slice.pair Ty.unit))) 0 false [(t, [a0, a1, a2, a3, a4], x, PUnit.unit)]), (1, AObj.arr 37 (Ty.str.pair ((i64T).pair ((i64T).pair ((i64T).pair (Ty.str.pair (((i64T).pair ((i64T).slice.pair ((i64T).slice.pair Ty.unit))).pair ((i64T).slice.pair Ty.unit))))))) 0 true [([112, 101, 114, 109], 7, 0, 0, [], (0, [], [], PUnit.unit), [p0, p1, p2, p3, p4], PUnit.unit)]), (2, AObj.arr 9 Ty.str 0 false [[120]])])
                                    else 
                                      bif p4 == p2 then some (AEnd.ret [(AV.d Ty.str []).pr ((I 0).pr (AV.nils.pr (AV.d Ty.unit PUnit.unit))), I 4], [(0, AObj.arr 25 ((i64T).pair ((i64T).slice.pair ((i64T).slice.pair Ty.unit))) 0 false [(t, [a0, a1, a2, a3, a4], x, PUnit.unit)]), (1, AObj.arr 37 (Ty.str.pair ((i64T).pair ((i64T).pair ((i64T).pair (Ty.str.pair (((i64T).pair ((i64T).slice.pair ((i64T).slice.pair Ty.unit))).pair ((i64T).slice.pair Ty.unit))))))) 0 true [([112, 101, 114, 109], 7, 0, 0, [], (0, [], [], PUnit.unit), [p0, p1, p2, p3, p4], PUnit.unit)]), (2, AObj.arr 9 Ty.str 0 false [[120]])])
                                      else 
                                        bif p4 == p3 then some (AEnd.ret [(AV.d Ty.str []).pr ((I 0).pr (AV.nils.pr (AV.d Ty.unit PUnit.unit))), I 4], [(0, AObj.arr 25 ((i64T).pair ((i64T).slice.pair ((i64T).slice.pair Ty.unit))) 0 false [(t, [a0, a1, a2, a3, a4], x, PUnit.unit)]), (1, AObj.arr 37 (Ty.str.pair ((i64T).pair ((i64T).pair ((i64T).pair (Ty.str.pair (((i64T).pair ((i64T).slice.pair ((i64T).slice.pair Ty.unit))).pair ((i64T).slice.pair Ty.unit))))))) 0 true [([112, 101, 114, 109], 7, 0, 0, [], (0, [], [], PUnit.unit), [p0, p1, p2, p3, p4], PUnit.unit)]), (2, AObj.arr 9 Ty.str 0 false [[120]])])
                                        else (idx [a0, a1, a2, a3, a4] p4).bind fun v20 =>
                                            bif countE [v6, v8, v11, v15, v20] != 0 then some (AEnd.ret [(AV.d Ty.str []).pr ((I 0).pr (AV.nils.pr (AV.d Ty.unit PUnit.unit))), I (countE [v6, v8, v11, v15, v20])], [(0, AObj.arr 25 ((i64T).pair ((i64T).slice.pair ((i64T).slice.pair Ty.unit))) 0 false [(t, [a0, a1, a2, a3, a4], x, PUnit.unit)]), (1, AObj.arr 37 (Ty.str.pair ((i64T).pair ((i64T).pair ((i64T).pair (Ty.str.pair (((i64T).pair ((i64T).slice.pair ((i64T).slice.pair Ty.unit))).pair ((i64T).slice.pair Ty.unit))))))) 0 true [([112, 101, 114, 109], 7, 0, 0, [], (0, [], [], PUnit.unit), [p0, p1, p2, p3, p4], PUnit.unit)]), (2, AObj.arr 9 Ty.str 0 false [[120]])])
                                            else some (AEnd.ret [(AV.d Ty.str [121]).pr ((I t).pr ((AV.os 3 0).pr (AV.d Ty.unit PUnit.unit))), I 0], [(0, AObj.arr 25 ((i64T).pair ((i64T).slice.pair ((i64T).slice.pair Ty.unit))) 0 false [(t, [a0, a1, a2, a3, a4], x, PUnit.unit)]), (1, AObj.arr 37 (Ty.str.pair ((i64T).pair ((i64T).pair ((i64T).pair (Ty.str.pair (((i64T).pair ((i64T).slice.pair ((i64T).slice.pair Ty.unit))).pair ((i64T).slice.pair Ty.unit))))))) 0 true [([112, 101, 114, 109], 7, 0, 0, [], (0, [], [], PUnit.unit), [p0, p1, p2, p3, p4], PUnit.unit)]), (2, AObj.arr 9 Ty.str 0 false [[120]]), (3, AObj.arr 3 (i64T) 0 false [v6, v8, v11, v15, v20])])
            else some (AEnd.ret [(AV.d Ty.str []).pr ((I 0).pr (AV.nils.pr (AV.d Ty.unit PUnit.unit))), I 4], [(0, AObj.arr 25 ((i64T).pair ((i64T).slice.pair ((i64T).slice.pair Ty.unit))) 0 false [(t, [a0, a1, a2, a3, a4], x, PUnit.unit)]), (1, AObj.arr 37 (Ty.str.pair ((i64T).pair ((i64T).pair ((i64T).pair (Ty.str.pair (((i64T).pair ((i64T).slice.pair ((i64T).slice.pair Ty.unit))).pair ((i64T).slice.pair Ty.unit))))))) 0 true [([112, 101, 114, 109], 7, 0, 0, [], (0, [], [], PUnit.unit), [p0, p1, p2, p3, p4], PUnit.unit)]), (2, AObj.arr 9 Ty.str 0 false [[120]])])
          else 
            bif numC 5 0 4 [p0, p1, p2, p3, p4] then (idx [a0, a1, a2, a3, a4] p0).bind fun v6 =>
                bif p1 == p0 then some (AEnd.ret [(AV.d Ty.str []).pr ((I 0).pr (AV.nils.pr (AV.d Ty.unit PUnit.unit))), I 4], [(0, AObj.arr 25 ((i64T).pair ((i64T).slice.pair ((i64T).slice.pair Ty.unit))) 0 false [(t, [a0, a1, a2, a3, a4], x, PUnit.unit)]), (1, AObj.arr 37 (Ty.str.pair ((i64T).pair ((i64T).pair ((i64T).pair (Ty.str.pair (((i64T).pair ((i64T).slice.pair ((i64T).slice.pair Ty.unit))).pair ((i64T).slice.pair Ty.unit))))))) 0 true [([112, 101, 114, 109], 7, 0, 0, [], (0, [], [], PUnit.unit), [p0, p1, p2, p3, p4], PUnit.unit)]), (2, AObj.arr 9 Ty.str 0 false [[120]])])
                else (idx [a0, a1, a2, a3, a4] p1).bind fun v8 =>
                    bif p2 == p0 then some (AEnd.ret [(AV.d Ty.str []).pr ((I 0).pr (AV.nils.pr (AV.d Ty.unit PUnit.unit))), I 4], [(0, AObj.arr 25 ((i64T).pair ((i64T).slice.pair ((i64T).slice.pair Ty.unit))) 0 false [(t, [a0, a1, a2, a3, a4], x, PUnit.unit)]), (1, AObj.arr 37 (Ty.str.pair ((i64T).pair ((i64T).pair ((i64T).pair (Ty.str.pair (((i64T).pair ((i64T).slice.pair ((i64T).slice.pair Ty.unit))).pair ((i64T).slice.pair Ty.unit))))))) 0 true [([112, 101, 114, 109], 7, 0, 0, [], (0, [], [], PUnit.unit), [p0, p1, p2, p3, p4], PUnit.unit)]), (2, AObj.arr 9 Ty.str 0 false [[120]])])
                    else 
                      bif p2 == p1 then some (AEnd.ret [(AV.d Ty.str []).pr ((I 0).pr (AV.nils.pr (AV.d Ty.unit PUnit.unit))), I 4], [(0, AObj.arr 25 ((i64T).pair ((i64T).slice.pair ((i64T).slice.pair Ty.unit))) 0 false [(t, [a0, a1, a2, a3, a4], x, PUnit.unit)]), (1, AObj.arr 37 (Ty.str.pair ((i64T).pair ((i64T).pair ((i64T).pair (Ty.str.pair (((i64T).pair ((i64T).slice.pair ((i64T).slice.pair Ty.unit))).pair ((i64T).slice.pair Ty.unit))))))) 0 true [([112, 101, 114, 109], 7, 0, 0, [], (0, [], [], PUnit.unit), [p0, p1, p2, p3, p4], PUnit.unit)]), (2, AObj.arr 9 Ty.str 0 false [[120]])])
                      else (idx [a0, a1, a2, a3, a4] p2).bind fun v11 =>
                          bif p3 == p0 then some (AEnd.ret [(AV.d Ty.str []).pr ((I 0).pr (AV.nils.pr (AV.d Ty.unit PUnit.unit))), I 4], [(0, AObj.arr 25 ((i64T).pair ((i64T).slice.pair ((i64T).slice.pair Ty.unit))) 0 false [(t, [a0, a1, a2, a3, a4], x, PUnit.unit)]), (1, AObj.arr 37 (Ty.str.pair ((i64T).pair ((i64T).pair ((i64T).pair (Ty.str.pair (((i64T).pair ((i64T).slice.pair ((i64T).slice.pair Ty.unit))).pair ((i64T).slice.pair Ty.unit))))))) 0 true [([112, 101, 114, 109], 7, 0, 0, [], (0, [], [], PUnit.unit), [p0, p1, p2, p3, p4], PUnit.unit)]), (2, AObj.arr 9 Ty.str 0 false [[120]])])
                          else 
                            bif p3 == p1 then some (AEnd.ret [(AV.d Ty.str []).pr ((I 0).pr (AV.nils.pr (AV.d Ty.unit PUnit.unit))), I 4], [(0, AObj.arr 25 ((i64T).pair ((i64T).slice.pair ((i64T).slice.pair Ty.unit))) 0 false [(t, [a0, a1, a2, a3, a4], x, PUnit.unit)]), (1, AObj.arr 37 (Ty.str.pair ((i64T).pair ((i64T).pair ((i64T).pair (Ty.str.pair (((i64T).pair ((i64T).slice.pair ((i64T).slice.pair Ty.unit))).pair ((i64T).slice.pair Ty.unit))))))) 0 true [([112, 101, 114, 109], 7, 0, 0, [], (0, [], [], PUnit.unit), [p0, p1, p2, p3, p4], PUnit.unit)]), (2, AObj.arr 9 Ty.str 0 false [[120]])])
                            else 
                              bif p3 == p2 then some (AEnd.ret [(AV.d Ty.str []).pr ((I 0).pr (AV.nils.pr (AV.d Ty.unit PUnit.unit))), I 4], [(0, AObj.arr 25 ((i64T).pair ((i64T).slice.pair ((i64T).slice.pair Ty.unit))) 0 false [(t, [a0, a1, a2, a3, a4], x, PUnit.unit)]), (1, AObj.arr 37 (Ty.str.pair ((i64T).pair ((i64T).pair ((i64T).pair (Ty.str.pair (((i64T).pair ((i64T).slice.pair ((i64T).slice.pair Ty.unit))).pair ((i64T).slice.pair Ty.unit))))))) 0 true [([112, 101, 114, 109], 7, 0, 0, [], (0, [], [], PUnit.unit), [p0, p1, p2, p3, p4], PUnit.unit)]), (2, AObj.arr 9 Ty.str 0 false [[120]])])
                              else (idx [a0, a1, a2, a3, a4] p3).bind fun v15 =>
                                  bif p4 == p0 then some (AEnd.ret [(AV.d Ty.str []).pr ((I 0).pr (AV.nils.pr (AV.d Ty.unit PUnit.unit))), I 4], [(0, AObj.arr 25 ((i64T).pair ((i64T).slice.pair ((i64T).slice.pair Ty.unit))) 0 false [(t, [a0, a1, a2, a3, a4], x, PUnit.unit)]), (1, AObj.arr 37 (Ty.str.pair ((i64T).pair ((i64T).pair ((i64T).pair (Ty.str.pair (((i64T).pair ((i64T).slice.pair ((i64T).slice.pair Ty.unit))).pair ((i64T).slice.pair Ty.unit))))))) 0 true [([112, 101, 114, 109], 7, 0, 0, [], (0, [], [], PUnit.unit), [p0, p1, p2, p3, p4], PUnit.unit)]), (2, AObj.arr 9 Ty.str 0 false [[120]])])
                                  else 
                                    bif p4 == p1 then some (AEnd.ret [(AV.d Ty.str []).pr ((I 0).pr (AV.nils.pr (AV.d Ty.unit PUnit.unit))), I 4], [(0, AObj.arr 25 ((i64T).pair ((i64T).slice.pair ((i64T).slice.pair Ty.unit))) 0 false [(t, [a0, a1, a2, a3, a4], x, PUnit.unit)]), (1, AObj.arr 37 (Ty.str.pair ((i64T).pair ((i64T).pair ((i64T).pair (Ty.str.pair (((i64T).pair ((i64T).slice.pair ((i64T).slice.pair Ty.unit))).pair ((i64T).slice.pair Ty.unit))))))) 0 true [([112, 101, 114, 109], 7, 0, 0, [], (0, [], [], PUnit.unit), [p0, p1, p2, p3, p4], PUnit.unit)]), (2, AObj.arr 9 Ty.str 0 false [[120]])])
                                    else 
                                      bif p4 == p2 then some (AEnd.ret [(AV.d Ty.str []).pr ((I 0).pr (AV.nils.pr (AV.d Ty.unit PUnit.unit))), I 4], [(0, AObj.arr 25 ((i64T).pair ((i64T).slice.pair ((i64T).slice.pair Ty.unit))) 0 false [(t, [a0, a1, a2, a3, a4], x, PUnit.unit)]), (1, AObj.arr 37 (Ty.str.pair ((i64T).pair ((i64T).pair ((i64T).pair (Ty.str.pair (((i64T).pair ((i64T).slice.pair ((i64T).slice.pair Ty.unit))).pair ((i64T).slice.pair Ty.unit))))))) 0 true [([112, 101, 114, 109], 7, 0, 0, [], (0, [], [], PUnit.unit), [p0, p1, p2, p3, p4], PUnit.unit)]), (2, AObj.arr 9 Ty.str 0 false [[120]])])
                                      else 
                                        bif p4 == p3 then some (AEnd.ret [(AV.d Ty.str []).pr ((I 0).pr (AV.nils.pr (AV.d Ty.unit PUnit.unit))), I 4], [(0, AObj.arr 25 ((i64T).pair ((i64T).slice.pair ((i64T).slice.pair Ty.unit))) 0 false [(t, [a0, a1, a2, a3, a4], x, PUnit.unit)]), (1, AObj.arr 37 (Ty.str.pair ((i64T).pair ((i64T).pair ((i64T).pair (Ty.str.pair (((i64T).pair ((i64T).slice.pair ((i64T).slice.pair Ty.unit))).pair ((i64T).slice.pair Ty.unit))))))) 0 true [([112, 101, 114, 109], 7, 0, 0, [], (0, [], [], PUnit.unit), [p0, p1, p2, p3, p4], PUnit.unit)]), (2, AObj.arr 9 Ty.str 0 false [[120]])])
                                        else (idx [a0, a1, a2, a3, a4] p4).bind fun v20 =>
                                            bif countE [v6, v8, v11, v15, v20] != 0 then some (AEnd.ret [(AV.d Ty.str []).pr ((I 0).pr (AV.nils.pr (AV.d Ty.unit PUnit.unit))), I (countE [v6, v8, v11, v15, v20])], [(0, AObj.arr 25 ((i64T).pair ((i64T).slice.pair ((i64T).slice.pair Ty.unit))) 0 false [(t, [a0, a1, a2, a3, a4], x, PUnit.unit)]), (1, AObj.arr 37 (Ty.str.pair ((i64T).pair ((i64T).pair ((i64T).pair (Ty.str.pair (((i64T).pair ((i64T).slice.pair ((i64T).slice.pair Ty.unit))).pair ((i64T).slice.pair Ty.unit))))))) 0 true [([112, 101, 114, 109], 7, 0, 0, [], (0, [], [], PUnit.unit), [p0, p1, p2, p3, p4], PUnit.unit)]), (2, AObj.arr 9 Ty.str 0 false [[120]])])
                                            else some (AEnd.ret [(AV.d Ty.str [121]).pr ((I t).pr ((AV.os 3 0).pr (AV.d Ty.unit PUnit.unit))), I 0], [(0, AObj.arr 25 ((i64T).pair ((i64T).slice.pair ((i64T).slice.pair Ty.unit))) 0 false [(t, [a0, a1, a2, a3, a4], x, PUnit.unit)]), (1, AObj.arr 37 (Ty.str.pair ((i64T).pair ((i64T).pair ((i64T).pair (Ty.str.pair (((i64T).pair ((i64T).slice.pair ((i64T).slice.pair Ty.unit))).pair ((i64T).slice.pair Ty.unit))))))) 0 true [([112, 101, 114, 109], 7, 0, 0, [], (0, [], [], PUnit.unit), [p0, p1, p2, p3, p4], PUnit.unit)]), (2, AObj.arr 9 Ty.str 0 false [[120]]), (3, AObj.arr 3 (i64T) 0 false [v6, v8, v11, v15, v20])])
            else some (AEnd.ret [(AV.d Ty.str []).pr ((I 0).pr (AV.nils.pr (AV.d Ty.unit PUnit.unit))), I 4], [(0, AObj.arr 25 ((i64T).pair ((i64T).slice.pair ((i64T).slice.pair Ty.unit))) 0 false [(t, [a0, a1, a2, a3, a4], x, PUnit.unit)]), (1, AObj.arr 37 (Ty.str.pair ((i64T).pair ((i64T).pair ((i64T).pair (Ty.str.pair (((i64T).pair ((i64T).slice.pair ((i64T).slice.pair Ty.unit))).pair ((i64T).slice.pair Ty.unit))))))) 0 true [([112, 101, 114, 109], 7, 0, 0, [], (0, [], [], PUnit.unit), [p0, p1, p2, p3, p4], PUnit.unit)]), (2, AObj.arr 9 Ty.str 0 false [[120]])])
  else none := by kernel_rfl
theorem mh6_eq (t a0 a1 a2 a3 a4 a5 p0 p1 p2 p3 p4 p5 : Int) (x : List Int) : runC gBh Tryz.f42 6 [(3, [2, 4, 6, 9, 10, 11])] [nodeA strTR [] [121] (.os 2 0) (.os 1 0), .os 0 0] (hpTb false t [a0, a1, a2, a3, a4, a5] x [lattr strPerm [p0, p1, p2, p3, p4, p5]]) ah =
  bif decide (6 ≤ 9223372036854775807 ∧ x.length ≤ 9223372036854775807) then 
    bif tenE t [a0, a1, a2, a3, a4, a5] x != 0 then some (AEnd.ret [(AV.d Ty.str []).pr ((I 0).pr (AV.nils.pr (AV.d Ty.unit PUnit.unit))), I 1], [(0, AObj.arr 25 ((i64T).pair ((i64T).slice.pair ((i64T).slice.pair Ty.unit))) 0 false [(t, [a0, a1, a2, a3, a4, a5], x, PUnit.unit)]), (1, AObj.arr 37 (Ty.str.pair ((i64T).pair ((i64T).pair ((i64T).pair (Ty.str.pair (((i64T).pair ((i64T).slice.pair ((i64T).slice.pair Ty.unit))).pair ((i64T).slice.pair Ty.unit))))))) 0 false [([112, 101, 114, 109], 7, 0, 0, [], (0, [], [], PUnit.unit), [p0, p1, p2, p3, p4, p5], PUnit.unit)]), (2, AObj.arr 9 Ty.str 0 false [[120]])])
    else 
      bif !numOk t 0 then some (AEnd.ret [(AV.d Ty.str []).pr ((I 0).pr (AV.nils.pr (AV.d Ty.unit PUnit.unit))), I 5], [(0, AObj.arr 25 ((i64T).pair ((i64T).slice.pair ((i64T).slice.pair Ty.unit))) 0 false [(t, [a0, a1, a2, a3, a4, a5], x, PUnit.unit)]), (1, AObj.arr 37 (Ty.str.pair ((i64T).pair ((i64T).pair ((i64T).pair (Ty.str.pair (((i64T).pair ((i64T).slice.pair ((i64T).slice.pair Ty.unit))).pair ((i64T).slice.pair Ty.unit))))))) 0 true [([112, 101, 114, 109], 7, 0, 0, [], (0, [], [], PUnit.unit), [p0, p1, p2, p3, p4, p5], PUnit.unit)]), (2, AObj.arr 9 Ty.str 0 false [[120]])])
      else 
        bif countE [a0, a1, a2, a3, a4, a5] != 0 then some (AEnd.ret [(AV.d Ty.str []).pr ((I 0).pr (AV.nils.pr (AV.d Ty.unit PUnit.unit))), I (countE [a0, a1, a2, a3, a4, a5])], [(0, AObj.arr 25 ((i64T).pair ((i64T).slice.pair ((i64T).slice.pair Ty.unit))) 0 false [(t, [a0, a1, a2, a3, a4, a5], x, PUnit.unit)]), (1, AObj.arr 37 (Ty.str.pair ((i64T).pair ((i64T).pair ((i64T).pair (Ty.str.pair (((i64T).pair ((i64T).slice.pair ((i64T).slice.pair Ty.unit))).pair ((i64T).slice.pair Ty.unit))))))) 0 true [([112, 101, 114, 109], 7, 0, 0, [], (0, [], [], PUnit.unit), [p0, p1, p2, p3, p4, p5], PUnit.unit)]), (2, AObj.arr 9 Ty.str 0 false [[120]])])
        else 
          bif t == 6 then 
            bif numC 6 0 5 [p0, p1, p2, p3, p4, p5] then (idx [a0, a1, a2, a3, a4, a5] p0).bind fun v6 =>
                bif p1 == p0 then some (AEnd.ret [(AV.d Ty.str []).pr ((I 0).pr (AV.nils.pr (AV.d Ty.unit PUnit.unit))), I 4], [(0, AObj.arr 25 ((i64T).pair ((i64T).slice.pair ((i64T).slice.pair Ty.unit))) 0 false [(t, [a0, a1, a2, a3, a4, a5], x, PUnit.unit)]), (1, AObj.arr 37 (Ty.str.pair ((i64T).pair ((i64T).pair ((i64T).pair (Ty.str.pair (((i64T).pair ((i64T).slice.pair ((i64T).slice.pair Ty.unit))).pair ((i64T).slice.pair Ty.unit))))))) 0 true [([112, 101, 114, 109], 7, 0, 0, [], (0, [], [], PUnit.unit), [p0, p1, p2, p3, p4, p5], PUnit.unit)]), (2, AObj.arr 9 Ty.str 0 false [[120]])])
                else (idx [a0, a1, a2, a3, a4, a5] p1).bind fun v8 =>
                    bif p2 == p0 then some (AEnd.ret [(AV.d Ty.str []).pr ((I 0).pr (AV.nils.pr (AV.d Ty.unit PUnit.unit))), I 4], [(0, AObj.arr 25 ((i64T).pair ((i64T).slice.pair ((i64T).slice.pair Ty.unit))) 0 false [(t, [a0, a1, a2, a3, a4, a5], x, PUnit.unit)]), (1, AObj.arr 37 (Ty.str.pair ((i64T).pair ((i64T).pair ((i64T).pair (Ty.str.pair (((i64T).pair ((i64T).slice.pair ((i64T).slice.pair Ty.unit))).pair ((i64T).slice.pair Ty.unit))))))) 0 true [([112, 101, 114, 109], 7, 0, 0, [], (0, [], [], PUnit.unit), [p0, p1, p2, p3, p4, p5], PUnit.unit)]), (2, AObj.arr 9 Ty.str 0 false [[120]])])
                    else 
                      bif p2 == p1 then some (AEnd.ret [(AV.d Ty.str []).pr ((I 0).pr (AV.nils.pr (AV.d Ty.unit PUnit.unit))), I 4], [(0, AObj.arr 25 ((i64T).pair ((i64T).slice.pair ((i64T).slice.pair Ty.unit))) 0 false [(t, [a0, a1, a2, a3, a4, a5], x, PUnit.unit)]), (1, AObj.arr 37 (Ty.str.pair ((i64T).pair ((i64T).pair ((i64T).pair (Ty.str.pair (((i64T).pair ((i64T).slice.pair ((i64T).slice.pair Ty.unit))).pair ((i64T).slice.pair Ty.unit))))))) 0 true [([112, 101, 114, 109], 7, 0, 0, [], (0, [], [], PUnit.unit), [p0, p1, p2, p3, p4, p5], PUnit.unit)]), (2, AObj.arr 9 Ty.str 0 false [[120]])])
                      else (idx [a0, a1, a2, a3, a4, a5] p2).bind fun v11 =>
                          bif p3 == p0 then some (AEnd.ret [(AV.d Ty.str []).pr ((I 0).pr (AV.nils.pr (AV.d Ty.unit PUnit.unit))), I 4], [(0, AObj.arr 25 ((i64T).pair ((i64T).slice.pair ((i64T).slice.pair Ty.unit))) 0 false [(t, [a0, a1, a2, a3, a4, a5], x, PUnit.unit)]), (1, AObj.arr 37 (Ty.str.pair ((i64T).pair ((i64T).pair ((i64T).pair (Ty.str.pair (((i64T).pair ((i64T).slice.pair ((i64T).slice.pair Ty.unit))).pair ((i64T).slice.pair Ty.unit))))))) 0 true [([112, 101, 114, 109], 7, 0, 0, [], (0, [], [], PUnit.unit), [p0, p1, p2, p3, p4, p5], PUnit.unit)]), (2, AObj.arr 9 Ty.str 0 false [[120]])])
                          else 
                            bif p3 == p1 then some (AEnd.ret [(AV.d Ty.str []).pr ((I 0).pr (AV.nils.pr (AV.d Ty.unit PUnit.unit))), I 4], [(0, AObj.arr 25 ((i64T).pair ((i64T).slice.pair ((i64T).slice.pair Ty.unit))) 0 false [(t, [a0, a1, a2, a3, a4, a5], x, PUnit.unit)]), (1, AObj.arr 37 (Ty.str.pair ((i64T).pair ((i64T).pair ((i64T).pair (Ty.str.pair (((i64T).pair ((i64T).slice.pair ((i64T).slice.pair Ty.unit))).pair ((i64T).slice.pair Ty.unit))))))) 0 true [([112, 101, 114, 109], 7, 0, 0, [], (0, [], [], PUnit.unit), [p0, p1, p2, p3, p4, p5], PUnit.unit)]), (2, AObj.arr 9 Ty.str 0 false [[120]])])
                            else 
                              bif p3 == p2 then some (AEnd.ret [(AV.d Ty.str []).pr ((I 0).pr (AV.nils.pr (AV.d Ty.unit PUnit.unit))), I 4], [(0, AObj.arr 25 ((i64T).pair ((i64T).slice.pair ((i64T).slice.pair Ty.unit))) 0 false [(t, [a0, a1, a2, a3, a4, a5], x, PUnit.unit)]), (1, AObj.arr 37 (Ty.str.pair ((i64T).pair ((i64T).pair ((i64T).pair (Ty.str.pair (((i64T).pair ((i64T).slice.pair ((i64T).slice.pair Ty.unit))).pair ((i64T).slice.pair Ty.unit))))))) 0 true [([112, 101, 114, 109], 7, 0, 0, [], (0, [], [], PUnit.unit), [p0, p1, p2, p3, p4, p5], PUnit.unit)]), (2, AObj.arr 9 Ty.str 0 false [[120]])])
                              else (idx [a0, a1, a2, a3, a4, a5] p3).bind fun v15 =>
                                  bif p4 == p0 then some (AEnd.ret [(AV.d Ty.str []).pr ((I 0).pr (AV.nils.pr (AV.d Ty.unit PUnit.unit))), I 4], [(0, AObj.arr 25 ((i64T).pair ((i64T).slice.pair ((i64T).slice.pair Ty.unit))) 0 false [(t, [a0, a1, a2, a3, a4, a5], x, PUnit.unit)]), (1, AObj.arr 37 (Ty.str.pair ((i64T).pair ((i64T).pair ((i64T).pair (Ty.str.pair (((i64T).pair ((i64T).slice.pair ((i64T).slice.pair Ty.unit))).pair ((i64T).slice.pair Ty.unit))))))) 0 true [([112, 101, 114, 109], 7, 0, 0, [], (0, [], [], PUnit.unit), [p0, p1, p2, p3, p4, p5], PUnit.unit)]), (2, AObj.arr 9 Ty.str 0 false [[120]])])
                                  else 
                                    bif p4 == p1 then some (AEnd.ret [(AV.d Ty.str []).pr ((I 0).pr (AV.nils.pr (AV.d Ty.unit PUnit.unit))), I 4], [(0, AObj.arr 25 ((i64T).pair ((i64T).slice.pair ((i64T).slice.pair Ty.unit))) 0 false [(t, [a0, a1, a2, a3, a4, a5], x, PUnit.unit)]), (1, AObj.arr 37 (Ty.str.pair ((i64T).pair ((i64T).pair ((i64T).pair (Ty.str.pair (((i64T).pair ((i64T).slice.pair ((i64T).slice.pair Ty.unit))).pair ((i64T).slice.pair Ty.unit))))))) 0 true [([112, 101, 114, 109], 7, 0, 0, [], (0, [], [], PUnit.unit), [p0, p1, p2, p3, p4, p5], PUnit.unit)]), (2, AObj.arr 9 Ty.str 0 false [[120]])])
                                    else 
                                      bif p4 == p2 then some (AEnd.ret [(AV.d Ty.str []).pr ((I 0).pr (AV.nils.pr (AV.d Ty.unit PUnit.unit))), I 4], [(0, AObj.arr 25 ((i64T).pair ((i64T).slice.pair ((i64T).slice.pair Ty.unit))) 0 false [(t, [a0, a1, a2, a3, a4, a5], x, PUnit.unit)]), (1, AObj.arr 37 (Ty.str.pair ((i64T).pair ((i64T).pair ((i64T).pair (Ty.str.pair (((i64T).pair ((i64T).slice.pair ((i64T).slice.pair Ty.unit))).pair ((i64T).slice.pair Ty.unit))))))) 0 true [([112, 101, 114, 109], 7, 0, 0, [], (0, [], [], PUnit.unit), [p0, p1, p2, p3, p4, p5], PUnit.unit)]), (2, AObj.arr 9 Ty.str 0 false [[120]])])
                                      else 
                                        bif p4 == p3 then some (AEnd.ret [(AV.d Ty.str []).pr ((I 0).pr (AV.nils.pr (AV.d Ty.unit PUnit.unit))), I 4], [(0, AObj.arr 25 ((i64T).pair ((i64T).slice.pair ((i64T).slice.pair Ty.unit))) 0 false [(t, [a0, a1, a2, a3, a4, a5], x, PUnit.unit)]), (1, AObj.arr 37 (Ty.str.pair ((i64T).pair ((i64T).pair ((i64T).pair (Ty.str.pair (((i64T).pair ((i64T).slice.pair ((i64T).slice.pair Ty.unit))).pair ((i64T).slice.pair Ty.unit))))))) 0 true [([112, 101, 114, 109], 7, 0, 0, [], (0, [], [], PUnit.unit), [p0, p1, p2, p3, p4, p5], PUnit.unit)]), (2, AObj.arr 9 Ty.str 0 false [[120]])])
                                        else (idx [a0, a1, a2, a3, a4, a5] p4).bind fun v20 =>
                                            bif p5 == p0 then some (AEnd.ret [(AV.d Ty.str []).pr ((I 0).pr (AV.nils.pr (AV.d Ty.unit PUnit.unit))), I 4], [(0, AObj.arr 25 ((i64T).pair ((i64T).slice.pair ((i64T).slice.pair Ty.unit))) 0 false [(t, [a0, a1, a2, a3, a4, a5], x, PUnit.unit)]), (1, AObj.arr 37 (Ty.str.pair ((i64T).pair ((i64T).pair ((i64T).pair (Ty.str.pair (((i64T).pair ((i64T).slice.pair ((i64T).slice.pair Ty.unit))).pair ((i64T).slice.pair Ty.unit))))))) 0 true [([112, 101, 114, 109], 7, 0, 0, [], (0, [], [], PUnit.unit), [p0, p1, p2, p3, p4, p5], PUnit.unit)]), (2, AObj.arr 9 Ty.str 0 false [[120]])])
                                            else 
                                              bif p5 == p1 then some (AEnd.ret [(AV.d Ty.str []).pr ((I 0).pr (AV.nils.pr (AV.d Ty.unit PUnit.unit))), I 4], [(0, AObj.arr 25 ((i64T).pair ((i64T).slice.pair ((i64T).slice.pair Ty.unit))) 0 false [(t, [a0, a1, a2, a3, a4, a5], x, PUnit.unit)]), (1, AObj.arr 37 (Ty.str.pair ((i64T).pair ((i64T).pair ((i64T).pair (Ty.str.pair (((i64T).pair ((i64T).slice.pair ((i64T).slice.pair Ty.unit))).pair ((i64T).slice.pair Ty.unit))))))) 0 true [([112, 101, 114, 109], 7, 0, 0, [], (0, [], [], PUnit.unit), [p0, p1, p2, p3, p4, p5], PUnit.unit)]), (2, AObj.arr 9 Ty.str 0 false [[120]])])
                                              else 
                                                bif p5 == p2 then some (AEnd.ret [(AV.d Ty.str []).pr ((I 0).pr (AV.nils.pr (AV.d Ty.unit PUnit.unit))), I 4], [(0, AObj.arr 25 ((i64T).pair ((i64T).slice.pair ((i64T).slice.pair Ty.unit))) 0 false [(t, [a0, a1, a2, a3, a4, a5], x, PUnit.unit)]), (1, AObj.arr 37 (Ty.str.pair ((i64T).pair ((i64T).pair ((i64T).pair (Ty.str.pair (((i64T).pair ((i64T).slice.pair ((i64T).slice.pair Ty.unit))).pair ((i64T).slice.pair Ty.unit))))))) 0 true [([112, 101, 114, 109], 7, 0, 0, [], (0, [], [], PUnit.unit), [p0, p1, p2, p3, p4, p5], PUnit.unit)]), (2, AObj.arr 9 Ty.str 0 false [[120]])])
                                                else 
                                                  bif p5 == p3 then some (AEnd.ret [(AV.d Ty.str []).pr ((I 0).pr (AV.nils.pr (AV.d Ty.unit PUnit.unit))), I 4], [(0, AObj.arr 25 ((i64T).pair ((i64T).slice.pair ((i64T).slice.pair Ty.unit))) 0 false [(t, [a0, a1, a2, a3, a4, a5], x, PUnit.unit)]), (1, AObj.arr 37 (Ty.str.pair ((i64T).pair ((i64T).pair ((i64T).pair (Ty.str.pair (((i64T).pair ((i64T).slice.pair ((i64T).slice.pair Ty.unit))).pair ((i64T).slice.pair Ty.unit))))))) 0 true [([112, 101, 114, 109], 7, 0, 0, [], (0, [], [], PUnit.unit), [p0, p1, p2, p3, p4, p5], PUnit.unit)]), (2, AObj.arr 9 Ty.str 0 false [[120]])])
                                                  else 
                                                    bif p5 == p4 then some (AEnd.ret [(AV.d Ty.str []).pr ((I 0).pr (AV.nils.pr (AV.d Ty.unit PUnit.unit))), I 4], [(0, AObj.arr 25 ((i64T).pair ((i64T).slice.pair ((i64T).slice.pair Ty.unit))) 0 false [(t, [a0, a1, a2, a3, a4, a5], x, PUnit.unit)]), (1, AObj.arr 37 (Ty.str.pair ((i64T).pair ((i64T).pair ((i64T).pair (Ty.str.pair (((i64T).pair ((i64T).slice.pair ((i64T).slice.pair Ty.unit))).pair ((i64T).slice.pair Ty.unit))))))) 0 true [([112, 101, 114, 109], 7, 0, 0, [], (0, [], [], PUnit.unit), [p0, p1, p2, p3, p4, p5], PUnit.unit)]), (2, AObj.arr 9 Ty.str 0 false [[120]])])
                                                    else (idx [a0, a1, a2, a3, a4, a5] p5).bind fun v26 =>
                                                        bif countE [v6, v8, v11, v15, v20, v26] != 0 then some (AEnd.ret [(AV.d Ty.str []).pr ((I 0).pr (AV.nils.pr (AV.d Ty.unit PUnit.unit))), I (countE [v6, v8, v11, v15, v20, v26])], [(0, AObj.arr 25 ((i64T).pair ((i64T).slice.pair ((i64T).slice.pair Ty.unit))) 0 false [(t, [a0, a1, a2, a3, a4, a5], x, PUnit.unit)]), (1, AObj.arr 37 (Ty.str.pair ((i64T).pair ((i64T).pair ((i64T).pair (Ty.str.pair (((i64T).pair ((i64T).slice.pair ((i64T).slice.pair Ty.unit))).pair ((i64T).slice.pair Ty.unit))))))) 0 true [([112, 101, 114, 109], 7, 0, 0, [], (0, [], [], PUnit.unit), [p0, p1, p2, p3, p4, p5], PUnit.unit)]), (2, AObj.arr 9 Ty.str 0 false [[120]])])
                                                        else some (AEnd.ret [(AV.d Ty.str [121]).pr ((I t).pr ((AV.os 3 0).pr (AV.d Ty.unit PUnit.unit))), I 0], [(0, AObj.arr 25 ((i64T).pair ((i64T).slice.pair ((i64T).slice.pair Ty.unit))) 0 false [(t, [a0, a1, a2, a3, a4, a5], x, PUnit.unit)]), (1, AObj.arr 37 (Ty.str.pair ((i64T).pair ((i64T).pair ((i64T).pair (Ty.str.pair (((i64T).pair ((i64T).slice.pair ((i64T).slice.pair Ty.unit))).pair ((i64T).slice.pair Ty.unit))))))) 0 true [([112, 101, 114, 109], 7, 0, 0, [], (0, [], [], PUnit.unit), [p0, p1, p2, p3, p4, p5], PUnit.unit)]), (2, AObj.arr 9 Ty.str 0 false [[120]]), (3, AObj.arr 3 (i64T) 0 false [v6, v8, v11, v15, v20, v26])])
            else some (AEnd.ret [(AV.d Ty.str []).pr ((I 0).pr (AV.nils.pr (AV.d Ty.unit PUnit.unit))), I 4], [(0, AObj.arr 25 ((i64T).pair ((i64T).slice.pair ((i64T).slice.pair Ty.unit))) 0 false [(t, [a0, a1, a2, a3, a4, a5], x, PUnit.unit)]), (1, AObj.arr 37 (Ty.str.pair ((i64T).pair ((i64T).pair ((i64T).pair (Ty.str.pair (((i64T).pair ((i64T).slice.pair ((i64T).slice.pair Ty.unit))).pair ((i64T).slice.pair Ty.unit))))))) 0 true [([112, 101, 114, 109], 7, 0, 0, [], (0, [], [], PUnit.unit), [p0, p1, p2, p3, p4, p5], PUnit.unit)]), (2, AObj.arr 9 Ty.str 0 false [[120]])])
          else 
            bif numC 6 0 5 [p0, p1, p2, p3, p4, p5] then (idx [a0, a1, a2, a3, a4, a5] p0).bind fun v6 =>
                bif p1 == p0 then some (AEnd.ret [(AV.d Ty.str []).pr ((I 0).pr (AV.nils.pr (AV.d Ty.unit PUnit.unit))), I 4], [(0, AObj.arr 25 ((i64T).pair ((i64T).slice.pair ((i64T).slice.pair Ty.unit))) 0 false [(t, [a0, a1, a2, a3, a4, a5], x, PUnit.unit)]), (1, AObj.arr 37 (Ty.str.pair ((i64T).pair ((i64T).pair ((i64T).pair (Ty.str.pair (((i64T).pair ((i64T).slice.pair ((i64T).slice.pair Ty.unit))).pair ((i64T).slice.pair Ty.unit))))))) 0 true [([112, 101, 114, 109], 7, 0, 0, [], (0, [], [], PUnit.unit), [p0, p1, p2, p3, p4, p5], PUnit.unit)]), (2, AObj.arr 9 Ty.str 0 false [[120]])])
                else (idx [a0, a1, a2, a3, a4, a5] p1).bind fun v8 =>
                    bif p2 == p0 then some (AEnd.ret [(AV.d Ty.str []).pr ((I 0).pr (AV.nils.pr (AV.d Ty.unit PUnit.unit))), I 4], [(0, AObj.arr 25 ((i64T).pair ((i64T).slice.pair ((i64T).slice.pair Ty.unit))) 0 false [(t, [a0, a1, a2, a3, a4, a5], x, PUnit.unit)]), (1, AObj.arr 37 (Ty.str.pair ((i64T).pair ((i64T).pair ((i64T).pair (Ty.str.pair (((i64T).pair ((i64T).slice.pair ((i64T).slice.pair Ty.unit))).pair ((i64T).slice.pair Ty.unit))))))) 0 true [([112, 101, 114, 109], 7, 0, 0, [], (0, [], [], PUnit.unit), [p0, p1, p2, p3, p4, p5], PUnit.unit)]), (2, AObj.arr 9 Ty.str 0 false [[120]])])
                    else 
                      bif p2 == p1 then some (AEnd.ret [(AV.d Ty.str []).pr ((I 0).pr (AV.nils.pr (AV.d Ty.unit PUnit.unit))), I 4], [(0, AObj.arr 25 ((i64T).pair ((i64T).slice.pair ((i64T).slice.pair Ty.unit))) 0 false [(t, [a0, a1, a2, a3, a4, a5], x, PUnit.unit)]), (1, AObj.arr 37 (Ty.str.pair ((i64T).pair ((i64T).pair ((i64T).pair (Ty.str.pair (((i64T).pair ((i64T).slice.pair ((i64T).slice.pair Ty.unit))).pair ((i64T).slice.pair Ty.unit))))))) 0 true [([112, 101, 114, 109], 7, 0, 0, [], (0, [], [], PUnit.unit), [p0, p1, p2, p3, p4, p5], PUnit.unit)]), (2, AObj.arr 9 Ty.str 0 false [[120]])])
                      else (idx [a0, a1, a2, a3, a4, a5] p2).bind fun v11 =>
                          bif p3 == p0 then some (AEnd.ret [(AV.d Ty.str []).pr ((I 0).pr (AV.nils.pr (AV.d Ty.unit PUnit.unit))), I 4], [(0, AObj.arr 25 ((i64T).pair ((i64T).slice.pair ((i64T).slice.pair Ty.unit))) 0 false [(t, [a0, a1, a2, a3, a4, a5], x, PUnit.unit)]), (1, AObj.arr 37 (Ty.str.pair ((i64T).pair ((i64T).pair ((i64T).pair (Ty.str.pair (((i64T).pair ((i64T).slice.pair ((i64T).slice.pair Ty.unit))).pair ((i64T).slice.pair Ty.unit))))))) 0 true [([112, 101, 114, 109], 7, 0, 0, [], (0, [], [], PUnit.unit), [p0, p1, p2, p3, p4, p5], PUnit.unit)]), (2, AObj.arr 9 Ty.str 0 false [[120]])])
                          else 
                            bif p3 == p1 then some (AEnd.ret [(AV.d Ty.str []).pr ((I 0).pr (AV.nils.pr (AV.d Ty.unit PUnit.unit))), I 4], [(0, AObj.arr 25 ((i64T).pair ((i64T).slice.pair ((i64T).slice.pair Ty.unit))) 0 false [(t, [a0, a1, a2, a3, a4, a5], x, PUnit.unit)]), (1, AObj.arr 37 (Ty.str.pair ((i64T).pair ((i64T).pair ((i64T).pair (Ty.str.pair (((i64T).pair ((i64T).slice.pair ((i64T).slice.pair Ty.unit))).pair ((i64T).slice.pair Ty.unit))))))) 0 true [([112, 101, 114, 109], 7, 0, 0, [], (0, [], [], PUnit.unit), [p0, p1, p2, p3, p4, p5], PUnit.unit)]), (2, AObj.arr 9 Ty.str 0 false [[120]])])
                            else 
                              bif p3 == p2 then some (AEnd.ret [(AV.d Ty.str []).pr ((I 0).pr (AV.nils.pr (AV.d Ty.unit PUnit.unit))), I 4], [(0, AObj.arr 25 ((i64T).pair ((i64T).slice.pair ((i64T).slice.pair Ty.unit))) 0 false [(t, [a0, a1, a2, a3, a4, a5], x, PUnit.unit)]), (1, AObj.arr 37 (Ty.str.pair ((i64T).pair ((i64T).pair ((i64T).pair (Ty.str.pair (((i64T).pair ((i64T).slice.pair ((i64T).slice.pair Ty.unit))).pair ((i64T).slice.pair Ty.unit))))))) 0 true [([112, 101, 114, 109], 7, 0, 0, [], (0, [], [], PUnit.unit), [p0, p1, p2, p3, p4, p5], PUnit.unit)]), (2, AObj.arr 9 Ty.str 0 false [[120]])])
                              else (idx [a0, a1, a2, a3, a4, a5] p3).bind fun v15 =>
                                  bif p4 == p0 then some (AEnd.ret [(AV.d Ty.str []).pr ((I 0).pr (AV.nils.pr (AV.d Ty.unit PUnit.unit))), I 4], [(0, AObj.arr 25 ((i64T).pair ((i64T).slice.pair ((i64T).slice.pair Ty.unit))) 0 false [(t, [a0, a1, a2, a3, a4, a5], x, PUnit.unit)]), (1, AObj.arr 37 (Ty.str.pair ((i64T).pair ((i64T).pair ((i64T).pair (Ty.str.pair (((i64T).pair ((i64T).slice.pair ((i64T).slice.pair Ty.unit))).pair ((i64T).slice.pair Ty.unit))))))) 0 true [([112, 101, 114, 109], 7, 0, 0, [], (0, [], [], PUnit.unit), [p0, p1, p2, p3, p4, p5], PUnit.unit)]), (2, AObj.arr 9 Ty.str 0 false [[120]])])
                                  else 
                                    bif p4 == p1 then some (AEnd.ret [(AV.d Ty.str []).pr ((I 0).pr (AV.nils.pr (AV.d Ty.unit PUnit.unit))), I 4], [(0, AObj.arr 25 ((i64T).pair ((i64T).slice.pair ((i64T).slice.pair Ty.unit))) 0 false [(t, [a0, a1, a2, a3, a4, a5], x, PUnit.unit)]), (1, AObj.arr 37 (Ty.str.pair ((i64T).pair ((i64T).pair ((i64T).pair (Ty.str.pair (((i64T).pair ((i64T).slice.pair ((i64T).slice.pair Ty.unit))).pair ((i64T).slice.pair Ty.unit))))))) 0 true [([112, 101, 114, 109], 7, 0, 0, [], (0, [], [], PUnit.unit), [p0, p1, p2, p3, p4, p5], PUnit.unit)]), (2, AObj.arr 9 Ty.str 0 false [[120]])])
                                    else 
                                      bif p4 == p2 then some (AEnd.ret [(AV.d Ty.str []).pr ((I 0).pr (AV.nils.pr (AV.d Ty.unit PUnit.unit))), I 4], [(0, AObj.arr 25 ((i64T).pair ((i64T).slice.pair ((i64T).slice.pair Ty.unit))) 0 false [(t, [a0, a1, a2, a3, a4, a5], x, PUnit.unit)]), (1, AObj.arr 37 (Ty.str.pair ((i64T).pair ((i64T).pair ((i64T).pair (Ty.str.pair (((i64T).pair ((i64T).slice.pair ((i64T).slice.pair Ty.unit))).pair ((i64T).slice.pair Ty.unit))))))) 0 true [([112, 101, 114, 109], 7, 0, 0, [], (0, [], [], PUnit.unit), [p0, p1, p2, p3, p4, p5], PUnit.unit)]), (2, AObj.arr 9 Ty.str 0 false [[120]])])
                                      else 
                                        bif p4 == p3 then some (AEnd.ret [(AV.d Ty.str []).pr ((I 0).pr (AV.nils.pr (AV.d Ty.unit PUnit.unit))), I 4], [(0, AObj.arr 25 ((i64T).pair ((i64T).slice.pair ((i64T).slice.pair Ty.unit))) 0 false [(t, [a0, a1, a2, a3, a4, a5], x, PUnit.unit)]), (1, AObj.arr 37 (Ty.str.pair ((i64T).pair ((i64T).pair ((i64T).pair (Ty.str.pair (((i64T).pair ((i64T).slice.pair ((i64T).slice.pair Ty.unit))).pair ((i64T).slice.pair Ty.unit))))))) 0 true [([112, 101, 114, 109], 7, 0, 0, [], (0, [], [], PUnit.unit), [p0, p1, p2, p3, p4, p5], PUnit.unit)]), (2, AObj.arr 9 Ty.str 0 false [[120]])])
                                        else (idx [a0, a1, a2, a3, a4, a5] p4).bind fun v20 =>
                                            bif p5 == p0 then some (AEnd.ret [(AV.d Ty.str []).pr ((I 0).pr (AV.nils.pr (AV.d Ty.unit PUnit.unit))), I 4], [(0, AObj.arr 25 ((i64T).pair ((i64T).slice.pair ((i64T).slice.pair Ty.unit))) 0 false [(t, [a0, a1, a2, a3, a4, a5], x, PUnit.unit)]), (1, AObj.arr 37 (Ty.str.pair ((i64T).pair ((i64T).pair ((i64T).pair (Ty.str.pair (((i64T).pair ((i64T).slice.pair ((i64T).slice.pair Ty.unit))).pair ((i64T).slice.pair Ty.unit))))))) 0 true [([112, 101, 114, 109], 7, 0, 0, [], (0, [], [], PUnit.unit), [p0, p1, p2, p3, p4, p5], PUnit.unit)]), (2, AObj.arr 9 Ty.str 0 false [[120]])])
                                            else 
                                              bif p5 == p1 then some (AEnd.ret [(AV.d Ty.str []).pr ((I 0).pr (AV.nils.pr (AV.d Ty.unit PUnit.unit))), I 4], [(0, AObj.arr 25 ((i64T).pair ((i64T).slice.pair ((i64T).slice.pair Ty.unit))) 0 false [(t, [a0, a1, a2, a3, a4, a5], x, PUnit.unit)]), (1, AObj.arr 37 (Ty.str.pair ((i64T).pair ((i64T).pair ((i64T).pair (Ty.str.pair (((i64T).pair ((i64T).slice.pair ((i64T).slice.pair Ty.unit))).pair ((i64T).slice.pair Ty.unit))))))) 0 true [([112, 101, 114, 109], 7, 0, 0, [], (0, [], [], PUnit.unit), [p0, p1, p2, p3, p4, p5], PUnit.unit)]), (2, AObj.arr 9 Ty.str 0 false [[120]])])
                                              else 
                                                bif p5 == p2 then some (AEnd.ret [(AV.d Ty.str []).pr ((I 0).pr (AV.nils.pr (AV.d Ty.unit PUnit.unit))), I 4], [(0, AObj.arr 25 ((i64T).pair ((i64T).slice.pair ((i64T).slice.pair Ty.unit))) 0 false [(t, [a0, a1, a2, a3, a4, a5], x, PUnit.unit)]), (1, AObj.arr 37 (Ty.str.pair ((i64T).pair ((i64T).pair ((i64T).pair (Ty.str.pair (((i64T).pair ((i64T).slice.pair ((i64T).slice.pair Ty.unit))).pair ((i64T).slice.pair Ty.unit))))))) 0 true [([112, 101, 114, 109], 7, 0, 0, [], (0, [], [], PUnit.unit), [p0, p1, p2, p3, p4, p5], PUnit.unit)]), (2, AObj.arr 9 Ty.str 0 false [[120]])])
                                                else 
                                                  bif p5 == p3 then some (AEnd.ret [(AV.d Ty.str []).pr ((I 0).pr (AV.nils.pr (AV.d Ty.unit PUnit.unit))), I 4], [(0, AObj.arr 25 ((i64T).pair ((i64T).slice.pair ((i64T).slice.pair Ty.unit))) 0 false [(t, [a0, a1, a2, a3, a4, a5], x, PUnit.unit)]), (1, AObj.arr 37 (Ty.str.pair ((i64T).pair ((i64T).pair ((i64T).pair (Ty.str.pair (((i64T).pair ((i64T).slice.pair ((i64T).slice.pair Ty.unit))).pair ((i64T).slice.pair Ty.unit))))))) 0 true [([112, 101, 114, 109], 7, 0, 0, [], (0, [], [], PUnit.unit), [p0, p1, p2, p3, p4, p5], PUnit.unit)]), (2, AObj.arr 9 Ty.str 0 false [[120]])])
                                                  else 
                                                    bif p5 == p4 then some (AEnd.ret [(AV.d Ty.str []).pr ((I 0).pr (AV.nils.pr (AV.d Ty.unit PUnit.unit))), I 4], [(0, AObj.arr 25 ((i64T).pair ((i64T).slice.pair ((i64T).slice.pair Ty.unit))) 0 false [(t, [a0, a1, a2, a3, a4, a5], x, PUnit.unit)]), (1, AObj.arr 37 (Ty.str.pair ((i64T).pair ((i64T).pair ((i64T).pair (Ty.str.pair (((i64T).pair ((i64T).slice.pair ((i64T).slice.pair Ty.unit))).pair ((i64T).slice.pair Ty.unit))))))) 0 true [([112, 101, 114, 109], 7, 0, 0, [], (0, [], [], PUnit.unit), [p0, p1, p2, p3, p4, p5], PUnit.unit)]), (2, AObj.arr 9 Ty.str 0 false [[120]])])
                                                    else (idx [a0, a1, a2, a3, a4, a5] p5).bind fun v26 =>
                                                        bif countE [v6, v8, v11, v15, v20, v26] != 0 then some (AEnd.ret [(AV.d Ty.str []).pr ((I 0).pr (AV.nils.pr (AV.d Ty.unit PUnit.unit))), I (countE [v6, v8, v11, v15, v20, v26])], [(0, AObj.arr 25 ((i64T).pair ((i64T).slice.pair ((i64T).slice.pair Ty.unit))) 0 false [(t, [a0, a1, a2, a3, a4, a5], x, PUnit.unit)]), (1, AObj.arr 37 (Ty.str.pair ((i64T).pair ((i64T).pair ((i64T).pair (Ty.str.pair (((i64T).pair ((i64T).slice.pair ((i64T).slice.pair Ty.unit))).pair ((i64T).slice.pair Ty.unit))))))) 0 true [([112, 101, 114, 109], 7, 0, 0, [], (0, [], [], PUnit.unit), [p0, p1, p2, p3, p4, p5], PUnit.unit)]), (2, AObj.arr 9 Ty.str 0 false [[120]])])
                                                        else some (AEnd.ret [(AV.d Ty.str [121]).pr ((I t).pr ((AV.os 3 0).pr (AV.d Ty.unit PUnit.unit))), I 0], [(0, AObj.arr 25 ((i64T).pair ((i64T).slice.pair ((i64T).slice.pair Ty.unit))) 0 false [(t, [a0, a1, a2, a3, a4, a5], x, PUnit.unit)]), (1, AObj.arr 37 (Ty.str.pair ((i64T).pair ((i64T).pair ((i64T).pair (Ty.str.pair (((i64T).pair ((i64T).slice.pair ((i64T).slice.pair Ty.unit))).pair ((i64T).slice.pair Ty.unit))))))) 0 true [([112, 101, 114, 109], 7, 0, 0, [], (0, [], [], PUnit.unit), [p0, p1, p2, p3, p4, p5], PUnit.unit)]), (2, AObj.arr 9 Ty.str 0 false [[120]]), (3, AObj.arr 3 (i64T) 0 false [v6, v8, v11, v15, v20, v26])])
            else some (AEnd.ret [(AV.d Ty.str []).pr ((I 0).pr (AV.nils.pr (AV.d Ty.unit PUnit.unit))), I 4], [(0, AObj.arr 25 ((i64T).pair ((i64T).slice.pair ((i64T).slice.pair Ty.unit))) 0 false [(t, [a0, a1, a2, a3, a4, a5], x, PUnit.unit)]), (1, AObj.arr 37 (Ty.str.pair ((i64T).pair ((i64T).pair ((i64T).pair (Ty.str.pair (((i64T).pair ((i64T).slice.pair ((i64T).slice.pair Ty.unit))).pair ((i64T).slice.pair Ty.unit))))))) 0 true [([112, 101, 114, 109], 7, 0, 0, [], (0, [], [], PUnit.unit), [p0, p1, p2, p3, p4, p5], PUnit.unit)]), (2, AObj.arr 9 Ty.str 0 false [[120]])])
  else none := by kernel_rfl
end Go.Proofs.XGT
namespace Go.Proofs.XGT
open Go.Vm Go
set_option maxRecDepth 100000
set_option maxHeartbeats 4000000
def numM (c lo hi : Int) (ot : List Int) : List Int → Tq
  | [] => .no
  | p :: pm => .br (decide ((p :: pm).length ≤ 2147483648)) (.br (!numC c lo hi (p :: pm)) (.leaf (.panic 123 4) (hpNu (p :: pm) ot)) .no) .no
theorem numV_run {c lo hi p : Int} {pm ot : List Int} (hl : (p :: pm).length ≤ 2147483648) (hc : (!numC c lo hi (p :: pm)) = true) : runC g106 Tryz.f160 6 [(4, [3, 4, 5, 14, 21, 22, 23])] [nodeA strTR [] [121] (.os 2 0) (.os 1 0), .d .str strPerm, .os 0 0, I c, I lo, I hi] (hpNu (p :: pm) ot) ah = some (.panic 123 4, hpNu (p :: pm) ot) := by
  refine (num_run hl).trans ?_
  have hc' : numC c lo hi (p :: pm) = false := by simpa using hc
  unfold numR
  rw [show (allIn lo hi (p :: pm) && (Int.ofNat (p :: pm).length == c)) = false from hc']
  rfl
def numV : List AV → LHp → Tq
  | [n, .d .str nm, .os 0 0, .d (.int .i64) c, .d (.int .i64) lo, .d (.int .i64) hi], [(0, .arr 2 (.int .i64) 0 false ot), (1, .arr 37 ((.pair .str (.pair (.int .i64) (.pair (.int .i64) (.pair (.int .i64) (.pair .str (.pair (.pair (.int .i64) (.pair (.slice (.int .i64)) (.pair (.slice (.int .i64)) .unit))) (.pair (.slice (.int .i64)) .unit)))))))) 0 true [a]), (2, .arr 9 .str 0 false ins)] =>
    (match nodeP n with
    | some (op, nm2, out, .os 2 0, .os 1 0) => gate (decide (op = strTR) && decide (nm2 = []) && decide (out = [121]) && decide (ins = [[120]]) && decide (nm = strPerm) && isL a strPerm) (numM c lo hi ot a.2.2.2.2.2.2.1)
    | _ => .no)
  | _, _ => .no
theorem numV_ok : FnE.OK e0.P e0.gam 160 (treeE numV) := by
  have h1 : FnE.OK e0.P e0.gam 160 (execFnC g106 Tryz.f160 6 [(4, [3, 4, 5, 14, 21, 22, 23])]) := y160_ok
  refine ⟨fun _ _ _ => Tq.eq _ _, fun args hs ae hs' h => ?_⟩
  have h' : (numV args hs).run ah = some (ae, hs') := h
  clear h
  unfold numV at h'
  split at h'
  · split at h'
    · rename_i hn
      rw [nodeP_some hn]
      obtain ⟨hb, h2⟩ := gate_run h'
      clear h'
      simp only [Bool.and_eq_true, decide_eq_true_eq] at hb
      obtain ⟨⟨⟨⟨⟨b1, b2⟩, b3⟩, b4⟩, b5⟩, b6⟩ := hb
      subst b1 b2 b3 b4 b5
      obtain ⟨l, rfl⟩ := isL_eq b6
      change (numM _ _ _ _ l).run ah = _ at h2
      cases l with
      | nil => cases h2
      | cons p pm =>
        obtain ⟨hl, h3⟩ := Tq.br_no h2
        obtain ⟨hc, h4⟩ := Tq.br_no h3
        exact h1.okC ((numV_run (of_decide_eq_true hl) hc).trans h4)
    · cases h'
  · cases h'
noncomputable def mkN : FnE := execFnC (g113.add 160 (treeElse numV y160)) Tryz.f162 6 [(6, [1, 6, 7, 24, 25, 26])]
theorem mkN_ok : FnE.OK e0.P e0.gam 162 mkN := execFnC_ok (g113_good.add (treeElse_ok numV_ok y160_ok)) hmix Tryz.func162 Tryz.call162 (by decide +kernel) rfl
noncomputable def mvN : FnE := execFnC (g149.add 162 mkN) Tryz.f127 7 []
theorem mvN_ok : FnE.OK e0.P e0.gam 127 mvN := execFnC_ok (g149_good.add mkN_ok) hmix Tryz.func127 Tryz.call127 (by decide +kernel) rfl
noncomputable def dmN : FnE := execFnC (g150.add 127 mvN) Tryz.f94 8 [(56, [3, 132, 133, 134])]
theorem dmN_ok : FnE.OK e0.P e0.gam 94 dmN := execFnC_ok (g150_good.add mvN_ok) hmix Tryz.func94 Tryz.call94 (by decide +kernel) rfl
noncomputable def ouN : FnE := execFnDC (g152.add 94 dmN) Tryz.f55 7 [(5, [1, 2, 4, 5, 26, 27, 28])] dd55
theorem ouN_ok : FnE.OK e0.P e0.gam 55 ouN := execFnDC_ok (g152_good.add dmN_ok) (execFnD_ok (D := dd55) (g152_good.add dmN_ok) hmix Tryz.func55 Tryz.call55 rfl rfl (by decide +kernel) rfl Tryz.func89 Tryz.call89 rfl rfl (by decide +kernel))
noncomputable def gBn : Env := g212.add 55 ouN
theorem gBn_good : gBn.Good := g212_good.add ouN_ok
theorem mn1_eq (t a0 p : Int) (pm x : List Int) : runC gBn Tryz.f42 6 [(3, [2, 4, 6, 9, 10, 11])] [nodeA strTR [] [121] (.os 2 0) (.os 1 0), .os 0 0] (hpTb false t [a0] x [lattr strPerm (p :: pm)]) ah =
  bif decide (1 ≤ 9223372036854775807 ∧ x.length ≤ 9223372036854775807) then 
    bif tenE t [a0] x != 0 then some (AEnd.ret [(AV.d Ty.str []).pr ((I 0).pr (AV.nils.pr (AV.d Ty.unit PUnit.unit))), I 1], [(0, AObj.arr 25 ((i64T).pair ((i64T).slice.pair ((i64T).slice.pair Ty.unit))) 0 false [(t, [a0], x, PUnit.unit)]), (1, AObj.arr 37 (Ty.str.pair ((i64T).pair ((i64T).pair ((i64T).pair (Ty.str.pair (((i64T).pair ((i64T).slice.pair ((i64T).slice.pair Ty.unit))).pair ((i64T).slice.pair Ty.unit))))))) 0 false [([112, 101, 114, 109], 7, 0, 0, [], (0, [], [], PUnit.unit), p :: pm, PUnit.unit)]), (2, AObj.arr 9 Ty.str 0 false [[120]])])
    else 
      bif !numOk t 0 then some (AEnd.ret [(AV.d Ty.str []).pr ((I 0).pr (AV.nils.pr (AV.d Ty.unit PUnit.unit))), I 5], [(0, AObj.arr 25 ((i64T).pair ((i64T).slice.pair ((i64T).slice.pair Ty.unit))) 0 false [(t, [a0], x, PUnit.unit)]), (1, AObj.arr 37 (Ty.str.pair ((i64T).pair ((i64T).pair ((i64T).pair (Ty.str.pair (((i64T).pair ((i64T).slice.pair ((i64T).slice.pair Ty.unit))).pair ((i64T).slice.pair Ty.unit))))))) 0 true [([112, 101, 114, 109], 7, 0, 0, [], (0, [], [], PUnit.unit), p :: pm, PUnit.unit)]), (2, AObj.arr 9 Ty.str 0 false [[120]])])
      else 
        bif countE [a0] != 0 then some (AEnd.ret [(AV.d Ty.str []).pr ((I 0).pr (AV.nils.pr (AV.d Ty.unit PUnit.unit))), I (countE [a0])], [(0, AObj.arr 25 ((i64T).pair ((i64T).slice.pair ((i64T).slice.pair Ty.unit))) 0 false [(t, [a0], x, PUnit.unit)]), (1, AObj.arr 37 (Ty.str.pair ((i64T).pair ((i64T).pair ((i64T).pair (Ty.str.pair (((i64T).pair ((i64T).slice.pair ((i64T).slice.pair Ty.unit))).pair ((i64T).slice.pair Ty.unit))))))) 0 true [([112, 101, 114, 109], 7, 0, 0, [], (0, [], [], PUnit.unit), p :: pm, PUnit.unit)]), (2, AObj.arr 9 Ty.str 0 false [[120]])])
        else 
          bif t == 6 then 
            bif decide ((p :: pm).length ≤ 2147483648) then 
              bif !numC 1 0 0 (p :: pm) then some (AEnd.ret [(AV.d Ty.str []).pr ((I 0).pr (AV.nils.pr (AV.d Ty.unit PUnit.unit))), I 4], [(0, AObj.arr 25 ((i64T).pair ((i64T).slice.pair ((i64T).slice.pair Ty.unit))) 0 false [(t, [a0], x, PUnit.unit)]), (1, AObj.arr 37 (Ty.str.pair ((i64T).pair ((i64T).pair ((i64T).pair (Ty.str.pair (((i64T).pair ((i64T).slice.pair ((i64T).slice.pair Ty.unit))).pair ((i64T).slice.pair Ty.unit))))))) 0 true [([112, 101, 114, 109], 7, 0, 0, [], (0, [], [], PUnit.unit), p :: pm, PUnit.unit)]), (2, AObj.arr 9 Ty.str 0 false [[120]])])
              else none
            else none
          else 
            bif decide ((p :: pm).length ≤ 2147483648) then 
              bif !numC 1 0 0 (p :: pm) then some (AEnd.ret [(AV.d Ty.str []).pr ((I 0).pr (AV.nils.pr (AV.d Ty.unit PUnit.unit))), I 4], [(0, AObj.arr 25 ((i64T).pair ((i64T).slice.pair ((i64T).slice.pair Ty.unit))) 0 false [(t, [a0], x, PUnit.unit)]), (1, AObj.arr 37 (Ty.str.pair ((i64T).pair ((i64T).pair ((i64T).pair (Ty.str.pair (((i64T).pair ((i64T).slice.pair ((i64T).slice.pair Ty.unit))).pair ((i64T).slice.pair Ty.unit))))))) 0 true [([112, 101, 114, 109], 7, 0, 0, [], (0, [], [], PUnit.unit), p :: pm, PUnit.unit)]), (2, AObj.arr 9 Ty.str 0 false [[120]])])
              else none
            else none
  else none := by kernel_rfl
theorem mn2_eq (t a0 a1 p : Int) (pm x : List Int) : runC gBn Tryz.f42 6 [(3, [2, 4, 6, 9, 10, 11])] [nodeA strTR [] [121] (.os 2 0) (.os 1 0), .os 0 0] (hpTb false t [a0, a1] x [lattr strPerm (p :: pm)]) ah =
  bif decide (2 ≤ 9223372036854775807 ∧ x.length ≤ 9223372036854775807) then 
    bif tenE t [a0, a1] x != 0 then some (AEnd.ret [(AV.d Ty.str []).pr ((I 0).pr (AV.nils.pr (AV.d Ty.unit PUnit.unit))), I 1], [(0, AObj.arr 25 ((i64T).pair ((i64T).slice.pair ((i64T).slice.pair Ty.unit))) 0 false [(t, [a0, a1], x, PUnit.unit)]), (1, AObj.arr 37 (Ty.str.pair ((i64T).pair ((i64T).pair ((i64T).pair (Ty.str.pair (((i64T).pair ((i64T).slice.pair ((i64T).slice.pair Ty.unit))).pair ((i64T).slice.pair Ty.unit))))))) 0 false [([112, 101, 114, 109], 7, 0, 0, [], (0, [], [], PUnit.unit), p :: pm, PUnit.unit)]), (2, AObj.arr 9 Ty.str 0 false [[120]])])
    else 
      bif !numOk t 0 then some (AEnd.ret [(AV.d Ty.str []).pr ((I 0).pr (AV.nils.pr (AV.d Ty.unit PUnit.unit))), I 5], [(0, AObj.arr 25 ((i64T).pair ((i64T).slice.pair ((i64T).slice.pair Ty.unit))) 0 false [(t, [a0, a1], x, PUnit.unit)]), (1, AObj.arr 37 (Ty.str.pair ((i64T).pair ((i64T).pair ((i64T).pair (Ty.str.pair (((i64T).pair ((i64T).slice.pair ((i64T).slice.pair Ty.unit))).pair ((i64T).slice.pair Ty.unit))))))) 0 true [([112, 101, 114, 109], 7, 0, 0, [], (0, [], [], PUnit.unit), p :: pm, PUnit.unit)]), (2, AObj.arr 9 Ty.str 0 false [[120]])])
      else 
        bif countE [a0, a1] != 0 then some (AEnd.ret [(AV.d Ty.str []).pr ((I 0).pr (AV.nils.pr (AV.d Ty.unit PUnit.unit))), I (countE [a0, a1])], [(0, AObj.arr 25 ((i64T).pair ((i64T).slice.pair ((i64T).slice.pair Ty.unit))) 0 false [(t, [a0, a1], x, PUnit.unit)]), (1, AObj.arr 37 (Ty.str.pair ((i64T).pair ((i64T).pair ((i64T).pair (Ty.str.pair (((i64T).pair ((i64T).slice.pair ((i64T).slice.pair Ty.unit))).pair ((i64T).slice.pair Ty.unit))))))) 0 true [([112, 101, 114, 109], 7, 0, 0, [], (0, [], [], PUnit.unit), p :: pm, PUnit.unit)]), (2, AObj.arr 9 Ty.str 0 false [[120]])])
        else 
          bif t == 6 then 
            bif decide ((p :: pm).length ≤ 2147483648) then 
              bif !numC 2 0 1 (p :: pm) then some (AEnd.ret [(AV.d Ty.str []).pr ((I 0).pr (AV.nils.pr (AV.d Ty.unit PUnit.unit))), I 4], [(0, AObj.arr 25 ((i64T).pair ((i64T).slice.pair ((i64T).slice.pair Ty.unit))) 0 false [(t, [a0, a1], x, PUnit.unit)]), (1, AObj.arr 37 (Ty.str.pair ((i64T).pair ((i64T).pair ((i64T).pair (Ty.str.pair (((i64T).pair ((i64T).slice.pair ((i64T).slice.pair Ty.unit))).pair ((i64T).slice.pair Ty.unit))))))) 0 true [([112, 101, 114, 109], 7, 0, 0, [], (0, [], [], PUnit.unit), p :: pm, PUnit.unit)]), (2, AObj.arr 9 Ty.str 0 false [[120]])])
              else none
            else none
          else 
            bif decide ((p :: pm).length ≤ 2147483648) then 
              bif !numC 2 0 1 (p :: pm) then some (AEnd.ret [(AV.d Ty.str []).pr ((I 0).pr (AV.nils.pr (AV.d Ty.unit PUnit.unit))), I 4], [(0, AObj.arr 25 ((i64T).pair ((i64T).slice.pair ((i64T).slice.pair Ty.unit))) 0 false [(t, [a0, a1], x, PUnit.unit)]), (1, AObj.arr 37 (Ty.str.pair ((i64T).pair ((i64T).pair ((i64T).pair (Ty.str.pair (((i64T).pair ((i64T).slice.pair ((i64T).slice.pair Ty.unit))).pair ((i64T).slice.pair Ty.unit))))))) 0 true [([112, 101, 114, 109], 7, 0, 0, [], (0, [], [], PUnit.unit), p :: pm, PUnit.unit)]), (2, AObj.arr 9 Ty.str 0 false [[120]])])
              else none
            else none
  else none := by kernel_rfl
theorem mn3_eq (t a0 a1 a2 p : Int) (pm x : List Int) : runC gBn Tryz.f42 6 [(3, [2, 4, 6, 9, 10, 11])] [nodeA strTR [] [121] (.os 2 0) (.os 1 0), .os 0 0] (hpTb false t [a0, a1, a2] x [lattr strPerm (p :: pm)]) ah =
  bif decide (3 ≤ 9223372036854775807 ∧ x.length ≤ 9223372036854775807) then 
    bif tenE t [a0, a1, a2] x != 0 then some (AEnd.ret [(AV.d Ty.str []).pr ((I 0).pr (AV.nils.pr (AV.d Ty.unit PUnit.unit))), I 1], [(0, AObj.arr 25 ((i64T).pair ((i64T).slice.pair ((i64T).slice.pair Ty.unit))) 0 false [(t, [a0, a1, a2], x, PUnit.unit)]), (1, AObj.arr 37 (Ty.str.pair ((i64T).pair ((i64T).pair ((i64T).pair (Ty.str.pair (((i64T).pair ((i64T).slice.pair ((i64T).slice.pair Ty.unit))).pair ((i64T).slice.pair Ty.unit))))))) 0 false [([112, 101, 114, 109], 7, 0, 0, [], (0, [], [], PUnit.unit), p :: pm, PUnit.unit)]), (2, AObj.arr 9 Ty.str 0 false [[120]])])
    else 
      bif !numOk t 0 then some (AEnd.ret [(AV.d Ty.str []).pr ((I 0).pr (AV.nils.pr (AV.d Ty.unit PUnit.unit))), I 5], [(0, AObj.arr 25 ((i64T).pair ((i64T).slice.pair ((i64T).slice.pair Ty.unit))) 0 false [(t, [a0, a1, a2], x, PUnit.unit)]), (1, AObj.arr 37 (Ty.str.pair ((i64T).pair ((i64T).pair ((i64T).pair (Ty.str.pair (((i64T).pair ((i64T).slice.pair ((i64T).slice.pair Ty.unit))).pair ((i64T).slice.pair Ty.unit))))))) 0 true [([112, 101, 114, 109], 7, 0, 0, [], (0, [], [], PUnit.unit), p :: pm, PUnit.unit)]), (2, AObj.arr 9 Ty.str 0 false [[120]])])
      else 
        bif countE [a0, a1, a2] != 0 then some (AEnd.ret [(AV.d Ty.str []).pr ((I 0).pr (AV.nils.pr (AV.d Ty.unit PUnit.unit))), I (countE [a0, a1, a2])], [(0, AObj.arr 25 ((i64T).pair ((i64T).slice.pair ((i64T).slice.pair Ty.unit))) 0 false [(t, [a0, a1, a2], x, PUnit.unit)]), (1, AObj.arr 37 (Ty.str.pair ((i64T).pair ((i64T).pair ((i64T).pair (Ty.str.pair (((i64T).pair ((i64T).slice.pair ((i64T).slice.pair Ty.unit))).pair ((i64T).slice.pair Ty.unit))))))) 0 true [([112, 101, 114, 109], 7, 0, 0, [], (0, [], [], PUnit.unit), p :: pm, PUnit.unit)]), (2, AObj.arr 9 Ty.str 0 false [[120]])])
        else 
          bif t == 6 then 
            bif decide ((p :: pm).length ≤ 2147483648) then 
              bif !numC 3 0 2 (p :: pm) then some (AEnd.ret [(AV.d Ty.str []).pr ((I 0).pr (AV.nils.pr (AV.d Ty.unit PUnit.unit))), I 4], [(0, AObj.arr 25 ((i64T).pair ((i64T).slice.pair ((i64T).slice.pair Ty.unit))) 0 false [(t, [a0, a1, a2], x, PUnit.unit)]), (1, AObj.arr 37 (Ty.str.pair ((i64T).pair ((i64T).pair ((i64T).pair (Ty.str.pair (((i64T).pair ((i64T).slice.pair ((i64T).slice.pair Ty.unit))).pair ((i64T).slice.pair Ty.unit))))))) 0 true [([112, 101, 114, 109], 7, 0, 0, [], (0, [], [], PUnit.unit), p :: pm, PUnit.unit)]), (2, AObj.arr 9 Ty.str 0 false [[120]])])
              else none
            else none
          else 
            bif decide ((p :: pm).length ≤ 2147483648) then 
              bif !numC 3 0 2 (p :: pm) then some (AEnd.ret [(AV.d Ty.str []).pr ((I 0).pr (AV.nils.pr (AV.d Ty.unit PUnit.unit))), I 4], [(0, AObj.arr 25 ((i64T).pair ((i64T).slice.pair ((i64T).slice.pair Ty.unit))) 0 false [(t, [a0, a1, a2], x, PUnit.unit)]), (1, AObj.arr 37 (Ty.str.pair ((i64T).pair ((i64T).pair ((i64T).pair (Ty.str.pair (((i64T).pair ((i64T).slice.pair ((i64T).slice.pair Ty.unit))).pair ((i64T).slice.pair Ty.unit))))))) 0 true [([112, 101, 114, 109], 7, 0, 0, [], (0, [], [], PUnit.unit), p :: pm, PUnit.unit)]), (2, AObj.arr 9 Ty.str 0 false [[120]])])
              else none
            else none
  else none := by kernel_rfl
theorem mn4_eq (t a0 a1 a2 a3 p : Int) (pm x : List Int) : runC gBn Tryz.f42 6 [(3, [2, 4, 6, 9, 10, 11])] [nodeA strTR [] [121] (.os 2 0) (.os 1 0), .os 0 0] (hpTb false t [a0, a1, a2, a3] x [lattr strPerm (p :: pm)]) ah =
  bif decide (4 ≤ 9223372036854775807 ∧ x.length ≤ 9223372036854775807) then 
    bif tenE t [a0, a1, a2, a3] x != 0 then some (AEnd.ret [(AV.d Ty.str []).pr ((I 0).pr (AV.nils.pr (AV.d Ty.unit PUnit.unit))), I 1], [(0, AObj.arr 25 ((i64T).pair ((i64T).slice.pair ((i64T).slice.pair Ty.unit))) 0 false [(t, [a0, a1, a2, a3], x, PUnit.unit)]), (1, AObj.arr 37 (Ty.str.pair ((i64T).pair ((i64T).pair ((i64T).pair (Ty.str.pair (((i64T).pair ((i64T).slice.pair ((i64T).slice.pair Ty.unit))).pair ((i64T).slice.pair Ty.unit))))))) 0 false [([112, 101, 114, 109], 7, 0, 0, [], (0, [], [], PUnit.unit), p :: pm, PUnit.unit)]), (2, AObj.arr 9 Ty.str 0 false [[120]])])
    else 
      bif !numOk t 0 then some (AEnd.ret [(AV.d Ty.str []).pr ((I 0).pr (AV.nils.pr (AV.d Ty.unit PUnit.unit))), I 5], [(0, AObj.arr 25 ((i64T).pair ((i64T).slice.pair ((i64T).slice.pair Ty.unit))) 0 false [(t, [a0, a1, a2, a3], x, PUnit.unit)]), (1, AObj.arr 37 (Ty.str.pair ((i64T).pair ((i64T).pair ((i64T).pair (Ty.str.pair (((i64T).pair ((i64T).slice.pair ((i64T).slice.pair Ty.unit))).pair ((i64T).slice.pair Ty.unit))))))) 0 true [([112, 101, 114, 109], 7, 0, 0, [], (0, [], [], PUnit.unit), p :: pm, PUnit.unit)]), (2, AObj.arr 9 Ty.str 0 false [[120]])])
      else 
        bif countE [a0, a1, a2, a3] != 0 then some (AEnd.ret [(AV.d Ty.str []).pr ((I 0).pr (AV.nils.pr (AV.d Ty.unit PUnit.unit))), I (countE [a0, a1, a2, a3])], [(0, AObj.arr 25 ((i64T).pair ((i64T).slice.pair ((i64T).slice.pair Ty.unit))) 0 false [(t, [a0, a1, a2, a3], x, PUnit.unit)]), (1, AObj.arr 37 (Ty.str.pair ((i64T).pair ((i64T).pair ((i64T).pair (Ty.str.pair (((i64T).pair ((i64T).slice.pair ((i64T).slice.pair Ty.unit))).pair ((i64T).slice.pair Ty.unit))))))) 0 true [([112, 101, 114, 109], 7, 0, 0, [], (0, [], [], PUnit.unit), p :: pm, PUnit.unit)]), (2, AObj.arr 9 Ty.str 0 false [[120]])])
        else 
          bif t == 6 then 
            bif decide ((p :: pm).length ≤ 2147483648) then 
              bif !numC 4 0 3 (p :: pm) then some (AEnd.ret [(AV.d Ty.str []).pr ((I 0).pr (AV.nils.pr (AV.d Ty.unit PUnit.unit))), I 4], [(0, AObj.arr 25 ((i64T).pair ((i64T).slice.pair ((i64T).slice.pair Ty.unit))) 0 false [(t, [a0, a1, a2, a3], x, PUnit.unit)]), (1, AObj.arr 37 (Ty.str.pair ((i64T).pair ((i64T).pair ((i64T).pair (Ty.str.pair (((i64T).pair ((i64T).slice.pair ((i64T).slice.pair Ty.unit))).pair ((i64T).slice.pair Ty.unit))))))) 0 true [([112, 101, 114, 109], 7, 0, 0, [], (0, [], [], PUnit.unit), p :: pm, PUnit.unit)]), (2, AObj.arr 9 Ty.str 0 false [[120]])])
              else none
            else none
          else 
            bif decide ((p :: pm).length ≤ 2147483648) then 
              bif !numC 4 0 3 (p :: pm) then some (AEnd.ret [(AV.d Ty.str []).pr ((I 0).pr (AV.nils.pr (AV.d Ty.unit PUnit.unit))), I 4], [(0, AObj.arr 25 ((i64T).pair ((i64T).slice.pair ((i64T).slice.pair Ty.unit))) 0 false [(t, [a0, a1, a2, a3], x, PUnit.unit)]), (1, AObj.arr 37 (Ty.str.pair ((i64T).pair ((i64T).pair ((i64T).pair (Ty.str.pair (((i64T).pair ((i64T).slice.pair ((i64T).slice.pair Ty.unit))).pair ((i64T).slice.pair Ty.unit))))))) 0 true [([112, 101, 114, 109], 7, 0, 0, [], (0, [], [], PUnit.unit), p :: pm, PUnit.unit)]), (2, AObj.arr 9 Ty.str 0 false [[120]])])
              else none
            else none
  else none := by kernel_rfl
theorem mn5_eq (t a0 a1 a2 a3 a4 p : Int) (pm x : List Int) : runC gBn Tryz.f42 6 [(3, [2, 4, 6, 9, 10, 11])] [nodeA strTR [] [121] (.os 2 0) (.os 1 0), .os 0 0] (hpTb false t [a0, a1, a2, a3, a4] x [lattr strPerm (p :: pm)]) ah =
  bif decide (5 ≤ 9223372036854775807 ∧ x.length ≤ 9223372036854775807) then 
    bif tenE t [a0, a1, a2, a3, a4] x != 0 then some (AEnd.ret [(AV.d Ty.str []).pr ((I 0).pr (AV.nils.pr (AV.d Ty.unit PUnit.unit))), I 1], [(0, AObj.arr 25 ((i64T).pair ((i64T).slice.pair ((i64T).slice.pair Ty.unit))) 0 false [(t, [a0, a1, a2, a3, a4], x, PUnit.unit)]), (1, AObj.arr 37 (Ty.str.pair ((i64T).pair ((i64T).pair ((i64T).pair (Ty.str.pair (((i64T).pair ((i64T).slice.pair ((i64T).slice.pair Ty.unit))).pair ((i64T).slice.pair Ty.unit))))))) 0 false [([112, 101, 114, 109], 7, 0, 0, [], (0, [], [], PUnit.unit), p :: pm, PUnit.unit)]), (2, AObj.arr 9 Ty.str 0 false [[120]])])
    else 
      bif !numOk t 0 then some (AEnd.ret [(AV.d Ty.str []).pr ((I 0).pr (AV.nils.pr (AV.d Ty.unit PUnit.unit))), I 5], [(0, AObj.arr 25 ((i64T).pair ((i64T).slice.pair ((i64T).slice.pair Ty.unit))) 0 false [(t, [a0, a1, a2, a3, a4], x, PUnit.unit)]), (1, AObj.arr 37 (Ty.str.pair ((i64T).pair ((i64T).pair ((i64T).pair (Ty.str.pair (((i64T).pair ((i64T).slice.pair ((i64T).slice.pair Ty.unit))).pair ((i64T).slice.pair Ty.unit))))))) 0 true [([112, 101, 114, 109], 7, 0, 0, [], (0, [], [], PUnit.unit), p :: pm, PUnit.unit)]), (2, AObj.arr 9 Ty.str 0 false [[120]])])
      else 
        bif countE [a0, a1, a2, a3, a4] != 0 then some (AEnd.ret [(AV.d Ty.str []).pr ((I 0).pr (AV.nils.pr (AV.d Ty.unit PUnit.unit))), I (countE [a0, a1, a2, a3, a4])], [(0, AObj.arr 25 ((i64T).pair ((i64T).slice.pair ((i64T).slice.pair Ty.unit))) 0 false [(t, [a0, a1, a2, a3, a4], x, PUnit.unit)]), (1, AObj.arr 37 (Ty.str.pair ((i64T).pair ((i64T).pair ((i64T).pair (Ty.str.pair (((i64T).pair ((i64T).slice.pair ((i64T).slice.pair Ty.unit))).pair ((i64T).slice.pair Ty.unit))))))) 0 true [([112, 101, 114, 109], 7, 0, 0, [], (0, [], [], PUnit.unit), p :: pm, PUnit.unit)]), (2, AObj.arr 9 Ty.str 0 false [[120]])])
        else 
          bif t == 6 then 
            bif decide ((p :: pm).length ≤ 2147483648) then 
              bif !numC 5 0 4 (p :: pm) then some (AEnd.ret [(AV.d Ty.str []).pr ((I 0).pr (AV.nils.pr (AV.d Ty.unit PUnit.unit))), I 4], [(0, AObj.arr 25 ((i64T).pair ((i64T).slice.pair ((i64T).slice.pair Ty.unit))) 0 false [(t, [a0, a1, a2, a3, a4], x, PUnit.unit)]), (1, AObj.arr 37 (Ty.str.pair ((i64T).pair ((i64T).pair ((i64T).pair (Ty.str.pair (((i64T).pair ((i64T).slice.pair ((i64T).slice.pair Ty.unit))).pair ((i64T).slice.pair Ty.unit))))))) 0 true [([112, 101, 114, 109], 7, 0, 0, [], (0, [], [], PUnit.unit), p :: pm, PUnit.unit)]), (2, AObj.arr 9 Ty.str 0 false [[120]])])
              else none
            else none
          else 
            bif decide ((p :: pm).length ≤ 2147483648) then 
              bif !numC 5 0 4 (p :: pm) then some (AEnd.ret [(AV.d Ty.str []).pr ((I 0).pr (AV.nils.pr (AV.d Ty.unit PUnit.unit))), I 4], [(0, AObj.arr 25 ((i64T).pair ((i64T).slice.pair ((i64T).slice.pair Ty.unit))) 0 false [(t, [a0, a1, a2, a3, a4], x, PUnit.unit)]), (1, AObj.arr 37 (Ty.str.pair ((i64T).pair ((i64T).pair ((i64T).pair (Ty.str.pair (((i64T).pair ((i64T).slice.pair ((i64T).slice.pair Ty.unit))).pair ((i64T).slice.pair Ty.unit))))))) 0 true [([112, 101, 114, 109], 7, 0, 0, [], (0, [], [], PUnit.unit), p :: pm, PUnit.unit)]), (2, AObj.arr 9 Ty.str 0 false [[120]])])
              else none
            else none
  else none := by kernel_rfl
theorem mn6_eq (t a0 a1 a2 a3 a4 a5 p : Int) (pm x : List Int) : runC gBn Tryz.f42 6 [(3, [2, 4, 6, 9, 10, 11])] [nodeA strTR [] [121] (.os 2 0) (.os 1 0), .os 0 0] (hpTb false t [a0, a1, a2, a3, a4, a5] x [lattr strPerm (p :: pm)]) ah =
  bif decide (6 ≤ 9223372036854775807 ∧ x.length ≤ 9223372036854775807) then 
    bif tenE t [a0, a1, a2, a3, a4, a5] x != 0 then some (AEnd.ret [(AV.d Ty.str []).pr ((I 0).pr (AV.nils.pr (AV.d Ty.unit PUnit.unit))), I 1], [(0, AObj.arr 25 ((i64T).pair ((i64T).slice.pair ((i64T).slice.pair Ty.unit))) 0 false [(t, [a0, a1, a2, a3, a4, a5], x, PUnit.unit)]), (1, AObj.arr 37 (Ty.str.pair ((i64T).pair ((i64T).pair ((i64T).pair (Ty.str.pair (((i64T).pair ((i64T).slice.pair ((i64T).slice.pair Ty.unit))).pair ((i64T).slice.pair Ty.unit))))))) 0 false [([112, 101, 114, 109], 7, 0, 0, [], (0, [], [], PUnit.unit), p :: pm, PUnit.unit)]), (2, AObj.arr 9 Ty.str 0 false [[120]])])
    else 
      bif !numOk t 0 then some (AEnd.ret [(AV.d Ty.str []).pr ((I 0).pr (AV.nils.pr (AV.d Ty.unit PUnit.unit))), I 5], [(0, AObj.arr 25 ((i64T).pair ((i64T).slice.pair ((i64T).slice.pair Ty.unit))) 0 false [(t, [a0, a1, a2, a3, a4, a5], x, PUnit.unit)]), (1, AObj.arr 37 (Ty.str.pair ((i64T).pair ((i64T).pair ((i64T).pair (Ty.str.pair (((i64T).pair ((i64T).slice.pair ((i64T).slice.pair Ty.unit))).pair ((i64T).slice.pair Ty.unit))))))) 0 true [([112, 101, 114, 109], 7, 0, 0, [], (0, [], [], PUnit.unit), p :: pm, PUnit.unit)]), (2, AObj.arr 9 Ty.str 0 false [[120]])])
      else 
        bif countE [a0, a1, a2, a3, a4, a5] != 0 then some (AEnd.ret [(AV.d Ty.str []).pr ((I 0).pr (AV.nils.pr (AV.d Ty.unit PUnit.unit))), I (countE [a0, a1, a2, a3, a4, a5])], [(0, AObj.arr 25 ((i64T).pair ((i64T).slice.pair ((i64T).slice.pair Ty.unit))) 0 false [(t, [a0, a1, a2, a3, a4, a5], x, PUnit.unit)]), (1, AObj.arr 37 (Ty.str.pair ((i64T).pair ((i64T).pair ((i64T).pair (Ty.str.pair (((i64T).pair ((i64T).slice.pair ((i64T).slice.pair Ty.unit))).pair ((i64T).slice.pair Ty.unit))))))) 0 true [([112, 101, 114, 109], 7, 0, 0, [], (0, [], [], PUnit.unit), p :: pm, PUnit.unit)]), (2, AObj.arr 9 Ty.str 0 false [[120]])])
        else 
          bif t == 6 then 
            bif decide ((p :: pm).length ≤ 2147483648) then 
              bif !numC 6 0 5 (p :: pm) then some (AEnd.ret [(AV.d Ty.str []).pr ((I 0).pr (AV.nils.pr (AV.d Ty.unit PUnit.unit))), I 4], [(0, AObj.arr 25 ((i64T).pair ((i64T).slice.pair ((i64T).slice.pair Ty.unit))) 0 false [(t, [a0, a1, a2, a3, a4, a5], x, PUnit.unit)]), (1, AObj.arr 37 (Ty.str.pair ((i64T).pair ((i64T).pair ((i64T).pair (Ty.str.pair (((i64T).pair ((i64T).slice.pair ((i64T).slice.pair Ty.unit))).pair ((i64T).slice.pair Ty.unit))))))) 0 true [([112, 101, 114, 109], 7, 0, 0, [], (0, [], [], PUnit.unit), p :: pm, PUnit.unit)]), (2, AObj.arr 9 Ty.str 0 false [[120]])])
              else none
            else none
          else 
            bif decide ((p :: pm).length ≤ 2147483648) then 
              bif !numC 6 0 5 (p :: pm) then some (AEnd.ret [(AV.d Ty.str []).pr ((I 0).pr (AV.nils.pr (AV.d Ty.unit PUnit.unit))), I 4], [(0, AObj.arr 25 ((i64T).pair ((i64T).slice.pair ((i64T).slice.pair Ty.unit))) 0 false [(t, [a0, a1, a2, a3, a4, a5], x, PUnit.unit)]), (1, AObj.arr 37 (Ty.str.pair ((i64T).pair ((i64T).pair ((i64T).pair (Ty.str.pair (((i64T).pair ((i64T).slice.pair ((i64T).slice.pair Ty.unit))).pair ((i64T).slice.pair Ty.unit))))))) 0 true [([112, 101, 114, 109], 7, 0, 0, [], (0, [], [], PUnit.unit), p :: pm, PUnit.unit)]), (2, AObj.arr 9 Ty.str 0 false [[120]])])
              else none
            else none
  else none := by kernel_rfl
end Go.Proofs.XGT
namespace Go.Proofs.XGT
open Go.Vm Go
set_option maxRecDepth 100000
set_option maxHeartbeats 4000000
theorem mz1_eq (t a0 : Int) (x : List Int) : runC gBh Tryz.f42 6 [(3, [2, 4, 6, 9, 10, 11])] [nodeA strTR [] [121] (.os 2 0) (.os 1 0), .os 0 0] (hpTb false t [a0] x [lattr strPerm []]) ah =
  bif decide (1 ≤ 9223372036854775807 ∧ x.length ≤ 9223372036854775807) then 
    bif tenE t [a0] x != 0 then some (AEnd.ret [(AV.d Ty.str []).pr ((I 0).pr (AV.nils.pr (AV.d Ty.unit PUnit.unit))), I 1], [(0, AObj.arr 25 ((i64T).pair ((i64T).slice.pair ((i64T).slice.pair Ty.unit))) 0 false [(t, [a0], x, PUnit.unit)]), (1, AObj.arr 37 (Ty.str.pair ((i64T).pair ((i64T).pair ((i64T).pair (Ty.str.pair (((i64T).pair ((i64T).slice.pair ((i64T).slice.pair Ty.unit))).pair ((i64T).slice.pair Ty.unit))))))) 0 false [([112, 101, 114, 109], 7, 0, 0, [], (0, [], [], PUnit.unit), [], PUnit.unit)]), (2, AObj.arr 9 Ty.str 0 false [[120]])])
    else 
      bif !numOk t 0 then some (AEnd.ret [(AV.d Ty.str []).pr ((I 0).pr (AV.nils.pr (AV.d Ty.unit PUnit.unit))), I 5], [(0, AObj.arr 25 ((i64T).pair ((i64T).slice.pair ((i64T).slice.pair Ty.unit))) 0 false [(t, [a0], x, PUnit.unit)]), (1, AObj.arr 37 (Ty.str.pair ((i64T).pair ((i64T).pair ((i64T).pair (Ty.str.pair (((i64T).pair ((i64T).slice.pair ((i64T).slice.pair Ty.unit))).pair ((i64T).slice.pair Ty.unit))))))) 0 true [([112, 101, 114, 109], 7, 0, 0, [], (0, [], [], PUnit.unit), [], PUnit.unit)]), (2, AObj.arr 9 Ty.str 0 false [[120]])])
      else 
        bif countE [a0] != 0 then some (AEnd.ret [(AV.d Ty.str []).pr ((I 0).pr (AV.nils.pr (AV.d Ty.unit PUnit.unit))), I (countE [a0])], [(0, AObj.arr 25 ((i64T).pair ((i64T).slice.pair ((i64T).slice.pair Ty.unit))) 0 false [(t, [a0], x, PUnit.unit)]), (1, AObj.arr 37 (Ty.str.pair ((i64T).pair ((i64T).pair ((i64T).pair (Ty.str.pair (((i64T).pair ((i64T).slice.pair ((i64T).slice.pair Ty.unit))).pair ((i64T).slice.pair Ty.unit))))))) 0 true [([112, 101, 114, 109], 7, 0, 0, [], (0, [], [], PUnit.unit), [], PUnit.unit)]), (2, AObj.arr 9 Ty.str 0 false [[120]])])
        else 
          bif t == 6 then some (AEnd.ret [(AV.d Ty.str []).pr ((I 0).pr (AV.nils.pr (AV.d Ty.unit PUnit.unit))), I 4], [(0, AObj.arr 25 ((i64T).pair ((i64T).slice.pair ((i64T).slice.pair Ty.unit))) 0 false [(t, [a0], x, PUnit.unit)]), (1, AObj.arr 37 (Ty.str.pair ((i64T).pair ((i64T).pair ((i64T).pair (Ty.str.pair (((i64T).pair ((i64T).slice.pair ((i64T).slice.pair Ty.unit))).pair ((i64T).slice.pair Ty.unit))))))) 0 true [([112, 101, 114, 109], 7, 0, 0, [], (0, [], [], PUnit.unit), [], PUnit.unit)]), (2, AObj.arr 9 Ty.str 0 false [[120]])])
          else some (AEnd.ret [(AV.d Ty.str []).pr ((I 0).pr (AV.nils.pr (AV.d Ty.unit PUnit.unit))), I 4], [(0, AObj.arr 25 ((i64T).pair ((i64T).slice.pair ((i64T).slice.pair Ty.unit))) 0 false [(t, [a0], x, PUnit.unit)]), (1, AObj.arr 37 (Ty.str.pair ((i64T).pair ((i64T).pair ((i64T).pair (Ty.str.pair (((i64T).pair ((i64T).slice.pair ((i64T).slice.pair Ty.unit))).pair ((i64T).slice.pair Ty.unit))))))) 0 true [([112, 101, 114, 109], 7, 0, 0, [], (0, [], [], PUnit.unit), [], PUnit.unit)]), (2, AObj.arr 9 Ty.str 0 false [[120]])])
  else none := by kernel_rfl
theorem mz2_eq (t a0 a1 : Int) (x : List Int) : runC gBh Tryz.f42 6 [(3, [2, 4, 6, 9, 10, 11])] [nodeA strTR [] [121] (.os 2 0) (.os 1 0), .os 0 0] (hpTb false t [a0, a1] x [lattr strPerm []]) ah =
  bif decide (2 ≤ 9223372036854775807 ∧ x.length ≤ 9223372036854775807) then 
    bif tenE t [a0, a1] x != 0 then some (AEnd.ret [(AV.d Ty.str []).pr ((I 0).pr (AV.nils.pr (AV.d Ty.unit PUnit.unit))), I 1], [(0, AObj.arr 25 ((i64T).pair ((i64T).slice.pair ((i64T).slice.pair Ty.unit))) 0 false [(t, [a0, a1], x, PUnit.unit)]), (1, AObj.arr 37 (Ty.str.pair ((i64T).pair ((i64T).pair ((i64T).pair (Ty.str.pair (((i64T).pair ((i64T).slice.pair ((i64T).slice.pair Ty.unit))).pair ((i64T).slice.pair Ty.unit))))))) 0 false [([112, 101, 114, 109], 7, 0, 0, [], (0, [], [], PUnit.unit), [], PUnit.unit)]), (2, AObj.arr 9 Ty.str 0 false [[120]])])
    else 
      bif !numOk t 0 then some (AEnd.ret [(AV.d Ty.str []).pr ((I 0).pr (AV.nils.pr (AV.d Ty.unit PUnit.unit))), I 5], [(0, AObj.arr 25 ((i64T).pair ((i64T).slice.pair ((i64T).slice.pair Ty.unit))) 0 false [(t, [a0, a1], x, PUnit.unit)]), (1, AObj.arr 37 (Ty.str.pair ((i64T).pair ((i64T).pair ((i64T).pair (Ty.str.pair (((i64T).pair ((i64T).slice.pair ((i64T).slice.pair Ty.unit))).pair ((i64T).slice.pair Ty.unit))))))) 0 true [([112, 101, 114, 109], 7, 0, 0, [], (0, [], [], PUnit.unit), [], PUnit.unit)]), (2, AObj.arr 9 Ty.str 0 false [[120]])])
      else 
        bif countE [a0, a1] != 0 then some (AEnd.ret [(AV.d Ty.str []).pr ((I 0).pr (AV.nils.pr (AV.d Ty.unit PUnit.unit))), I (countE [a0, a1])], [(0, AObj.arr 25 ((i64T).pair ((i64T).slice.pair ((i64T).slice.pair Ty.unit))) 0 false [(t, [a0, a1], x, PUnit.unit)]), (1, AObj.arr 37 (Ty.str.pair ((i64T).pair ((i64T).pair ((i64T).pair (Ty.str.pair (((i64T).pair ((i64T).slice.pair ((i64T).slice.pair Ty.unit))).pair ((i64T).slice.pair Ty.unit))))))) 0 true [([112, 101, 114, 109], 7, 0, 0, [], (0, [], [], PUnit.unit), [], PUnit.unit)]), (2, AObj.arr 9 Ty.str 0 false [[120]])])
        else 
          bif t == 6 then some (AEnd.ret [(AV.d Ty.str []).pr ((I 0).pr (AV.nils.pr (AV.d Ty.unit PUnit.unit))), I 4], [(0, AObj.arr 25 ((i64T).pair ((i64T).slice.pair ((i64T).slice.pair Ty.unit))) 0 false [(t, [a0, a1], x, PUnit.unit)]), (1, AObj.arr 37 (Ty.str.pair ((i64T).pair ((i64T).pair ((i64T).pair (Ty.str.pair (((i64T).pair ((i64T).slice.pair ((i64T).slice.pair Ty.unit))).pair ((i64T).slice.pair Ty.unit))))))) 0 true [([112, 101, 114, 109], 7, 0, 0, [], (0, [], [], PUnit.unit), [], PUnit.unit)]), (2, AObj.arr 9 Ty.str 0 false [[120]])])
          else some (AEnd.ret [(AV.d Ty.str []).pr ((I 0).pr (AV.nils.pr (AV.d Ty.unit PUnit.unit))), I 4], [(0, AObj.arr 25 ((i64T).pair ((i64T).slice.pair ((i64T).slice.pair Ty.unit))) 0 false [(t, [a0, a1], x, PUnit.unit)]), (1, AObj.arr 37 (Ty.str.pair ((i64T).pair ((i64T).pair ((i64T).pair (Ty.str.pair (((i64T).pair ((i64T).slice.pair ((i64T).slice.pair Ty.unit))).pair ((i64T).slice.pair Ty.unit))))))) 0 true [([112, 101, 114, 109], 7, 0, 0, [], (0, [], [], PUnit.unit), [], PUnit.unit)]), (2, AObj.arr 9 Ty.str 0 false [[120]])])
  else none := by kernel_rfl
theorem mz3_eq (t a0 a1 a2 : Int) (x : List Int) : runC gBh Tryz.f42 6 [(3, [2, 4, 6, 9, 10, 11])] [nodeA strTR [] [121] (.os 2 0) (.os 1 0), .os 0 0] (hpTb false t [a0, a1, a2] x [lattr strPerm []]) ah =
  bif decide (3 ≤ 9223372036854775807 ∧ x.length ≤ 9223372036854775807) then 
    bif tenE t [a0, a1, a2] x != 0 then some (AEnd.ret [(AV.d Ty.str []).pr ((I 0).pr (AV.nils.pr (AV.d Ty.unit PUnit.unit))), I 1], [(0, AObj.arr 25 ((i64T).pair ((i64T).slice.pair ((i64T).slice.pair Ty.unit))) 0 false [(t, [a0, a1, a2], x, PUnit.unit)]), (1, AObj.arr 37 (Ty.str.pair ((i64T).pair ((i64T).pair ((i64T).pair (Ty.str.pair (((i64T).pair ((i64T).slice.pair ((i64T).slice.pair Ty.unit))).pair ((i64T).slice.pair Ty.unit))))))) 0 false [([112, 101, 114, 109], 7, 0, 0, [], (0, [], [], PUnit.unit), [], PUnit.unit)]), (2, AObj.arr 9 Ty.str 0 false [[120]])])
    else 
      bif !numOk t 0 then some (AEnd.ret [(AV.d Ty.str []).pr ((I 0).pr (AV.nils.pr (AV.d Ty.unit PUnit.unit))), I 5], [(0, AObj.arr 25 ((i64T).pair ((i64T).slice.pair ((i64T).slice.pair Ty.unit))) 0 false [(t, [a0, a1, a2], x, PUnit.unit)]), (1, AObj.arr 37 (Ty.str.pair ((i64T).pair ((i64T).pair ((i64T).pair (Ty.str.pair (((i64T).pair ((i64T).slice.pair ((i64T).slice.pair Ty.unit))).pair ((i64T).slice.pair Ty.unit))))))) 0 true [([112, 101, 114, 109], 7, 0, 0, [], (0, [], [], PUnit.unit), [], PUnit.unit)]), (2, AObj.arr 9 Ty.str 0 false [[120]])])
      else 
        bif countE [a0, a1, a2] != 0 then some (AEnd.ret [(AV.d Ty.str []).pr ((I 0).pr (AV.nils.pr (AV.d Ty.unit PUnit.unit))), I (countE [a0, a1, a2])], [(0, AObj.arr 25 ((i64T).pair ((i64T).slice.pair ((i64T).slice.pair Ty.unit))) 0 false [(t, [a0, a1, a2], x, PUnit.unit)]), (1, AObj.arr 37 (Ty.str.pair ((i64T).pair ((i64T).pair ((i64T).pair (Ty.str.pair (((i64T).pair ((i64T).slice.pair ((i64T).slice.pair Ty.unit))).pair ((i64T).slice.pair Ty.unit))))))) 0 true [([112, 101, 114, 109], 7, 0, 0, [], (0, [], [], PUnit.unit), [], PUnit.unit)]), (2, AObj.arr 9 Ty.str 0 false [[120]])])
        else 
          bif t == 6 then some (AEnd.ret [(AV.d Ty.str []).pr ((I 0).pr (AV.nils.pr (AV.d Ty.unit PUnit.unit))), I 4], [(0, AObj.arr 25 ((i64T).pair ((i64T).slice.pair ((i64T).slice.pair Ty.unit))) 0 false [(t, [a0, a1, a2], x, PUnit.unit)]), (1, AObj.arr 37 (Ty.str.pair ((i64T).pair ((i64T).pair ((i64T).pair (Ty.str.pair (((i64T).pair ((i64T).slice.pair ((i64T).slice.pair Ty.unit))).pair ((i64T).slice.pair Ty.unit))))))) 0 true [([112, 101, 114, 109], 7, 0, 0, [], (0, [], [], PUnit.unit), [], PUnit.unit)]), (2, AObj.arr 9 Ty.str 0 false [[120]])])
          else some (AEnd.ret [(AV.d Ty.str []).pr ((I 0).pr (AV.nils.pr (AV.d Ty.unit PUnit.unit))), I 4], [(0, AObj.arr 25 ((i64T).pair ((i64T).slice.pair ((i64T).slice.pair Ty.unit))) 0 false [(t, [a0, a1, a2], x, PUnit.unit)]), (1, AObj.arr 37 (Ty.str.pair ((i64T).pair ((i64T).pair ((i64T).pair (Ty.str.pair (((i64T).pair ((i64T).slice.pair ((i64T).slice.pair Ty.unit))).pair ((i64T).slice.pair Ty.unit))))))) 0 true [([112, 101, 114, 109], 7, 0, 0, [], (0, [], [], PUnit.unit), [], PUnit.unit)]), (2, AObj.arr 9 Ty.str 0 false [[120]])])
  else none := by kernel_rfl
theorem mz4_eq (t a0 a1 a2 a3 : Int) (x : List Int) : runC gBh Tryz.f42 6 [(3, [2, 4, 6, 9, 10, 11])] [nodeA strTR [] [121] (.os 2 0) (.os 1 0), .os 0 0] (hpTb false t [a0, a1, a2, a3] x [lattr strPerm []]) ah =
  bif decide (4 ≤ 9223372036854775807 ∧ x.length ≤ 9223372036854775807) then 
    bif tenE t [a0, a1, a2, a3] x != 0 then some (AEnd.ret [(AV.d Ty.str []).pr ((I 0).pr (AV.nils.pr (AV.d Ty.unit PUnit.unit))), I 1], [(0, AObj.arr 25 ((i64T).pair ((i64T).slice.pair ((i64T).slice.pair Ty.unit))) 0 false [(t, [a0, a1, a2, a3], x, PUnit.unit)]), (1, AObj.arr 37 (Ty.str.pair ((i64T).pair ((i64T).pair ((i64T).pair (Ty.str.pair (((i64T).pair ((i64T).slice.pair ((i64T).slice.pair Ty.unit))).pair ((i64T).slice.pair Ty.unit))))))) 0 false [([112, 101, 114, 109], 7, 0, 0, [], (0, [], [], PUnit.unit), [], PUnit.unit)]), (2, AObj.arr 9 Ty.str 0 false [[120]])])
    else 
      bif !numOk t 0 then some (AEnd.ret [(AV.d Ty.str []).pr ((I 0).pr (AV.nils.pr (AV.d Ty.unit PUnit.unit))), I 5], [(0, AObj.arr 25 ((i64T).pair ((i64T).slice.pair ((i64T).slice.pair Ty.unit))) 0 false [(t, [a0, a1, a2, a3], x, PUnit.unit)]), (1, AObj.arr 37 (Ty.str.pair ((i64T).pair ((i64T).pair ((i64T).pair (Ty.str.pair (((i64T).pair ((i64T).slice.pair ((i64T).slice.pair Ty.unit))).pair ((i64T).slice.pair Ty.unit))))))) 0 true [([112, 101, 114, 109], 7, 0, 0, [], (0, [], [], PUnit.unit), [], PUnit.unit)]), (2, AObj.arr 9 Ty.str 0 false [[120]])])
      else 
        bif countE [a0, a1, a2, a3] != 0 then some (AEnd.ret [(AV.d Ty.str []).pr ((I 0).pr (AV.nils.pr (AV.d Ty.unit PUnit.unit))), I (countE [a0, a1, a2, a3])], [(0, AObj.arr 25 ((i64T).pair ((i64T).slice.pair ((i64T).slice.pair Ty.unit))) 0 false [(t, [a0, a1, a2, a3], x, PUnit.unit)]), (1, AObj.arr 37 (Ty.str.pair ((i64T).pair ((i64T).pair ((i64T).pair (Ty.str.pair (((i64T).pair ((i64T).slice.pair ((i64T).slice.pair Ty.unit))).pair ((i64T).slice.pair Ty.unit))))))) 0 true [([112, 101, 114, 109], 7, 0, 0, [], (0, [], [], PUnit.unit), [], PUnit.unit)]), (2, AObj.arr 9 Ty.str 0 false [[120]])])
        else 
          bif t == 6 then some (AEnd.ret [(AV.d Ty.str []).pr ((I 0).pr (AV.nils.pr (AV.d Ty.unit PUnit.unit))), I 4], [(0, AObj.arr 25 ((i64T).pair ((i64T).slice.pair ((i64T).slice.pair Ty.unit))) 0 false [(t, [a0, a1, a2, a3], x, PUnit.unit)]), (1, AObj.arr 37 (Ty.str.pair ((i64T).pair ((i64T).pair ((i64T).pair (Ty.str.pair (((i64T).pair ((i64T).slice.pair ((i64T).slice.pair Ty.unit))).pair ((i64T).slice.pair Ty.unit))))))) 0 true [([112, 101, 114, 109], 7, 0, 0, [], (0, [], [], PUnit.unit), [], PUnit.unit)]), (2, AObj.arr 9 Ty.str 0 false [[120]])])
          else some (AEnd.ret [(AV.d Ty.str []).pr ((I 0).pr (AV.nils.pr (AV.d Ty.unit PUnit.unit))), I 4], [(0, AObj.arr 25 ((i64T).pair ((i64T).slice.pair ((i64T).slice.pair Ty.unit))) 0 false [(t, [a0, a1, a2, a3], x, PUnit.unit)]), (1, AObj.arr 37 (Ty.str.pair ((i64T).pair ((i64T).pair ((i64T).pair (Ty.str.pair (((i64T).pair ((i64T).slice.pair ((i64T).slice.pair Ty.unit))).pair ((i64T).slice.pair Ty.unit))))))) 0 true [([112, 101, 114, 109], 7, 0, 0, [], (0, [], [], PUnit.unit), [], PUnit.unit)]), (2, AObj.arr 9 Ty.str 0 false [[120]])])
  else none := by kernel_rfl
theorem mz5_eq (t a0 a1 a2 a3 a4 : Int) (x : List Int) : runC gBh Tryz.f42 6 [(3, [2, 4, 6, 9, 10, 11])] [nodeA strTR [] [121] (.os 2 0) (.os 1 0), .os 0 0] (hpTb false t [a0, a1, a2, a3, a4] x [lattr strPerm []]) ah =
  bif decide (5 ≤ 9223372036854775807 ∧ x.length ≤ 9223372036854775807) then 
    bif tenE t [a0, a1, a2, a3, a4] x != 0 then some (AEnd.ret [(AV.d Ty.str []).pr ((I 0).pr (AV.nils.pr (AV.d Ty.unit PUnit.unit))), I 1], [(0, AObj.arr 25 ((i64T).pair ((i64T).slice.pair ((i64T).slice.pair Ty.unit))) 0 false [(t, [a0, a1, a2, a3, a4], x, PUnit.unit)]), (1, AObj.arr 37 (Ty.str.pair ((i64T).pair ((i64T).pair ((i64T).pair (Ty.str.pair (((i64T).pair ((i64T).slice.pair ((i64T).slice.pair Ty.unit))).pair ((i64T).slice.pair Ty.unit))))))) 0 false [([112, 101, 114, 109], 7, 0, 0, [], (0, [], [], PUnit.unit), [], PUnit.unit)]), (2, AObj.arr 9 Ty.str 0 false [[120]])])
    else 
      bif !numOk t 0 then some (AEnd.ret [(AV.d Ty.str []).pr ((I 0).pr (AV.nils.pr (AV.d Ty.unit PUnit.unit))), I 5], [(0, AObj.arr 25 ((i64T).pair ((i64T).slice.pair ((i64T).slice.pair Ty.unit))) 0 false [(t, [a0, a1, a2, a3, a4], x, PUnit.unit)]), (1, AObj.arr 37 (Ty.str.pair ((i64T).pair ((i64T).pair ((i64T).pair (Ty.str.pair (((i64T).pair ((i64T).slice.pair ((i64T).slice.pair Ty.unit))).pair ((i64T).slice.pair Ty.unit))))))) 0 true [([112, 101, 114, 109], 7, 0, 0, [], (0, [], [], PUnit.unit), [], PUnit.unit)]), (2, AObj.arr 9 Ty.str 0 false [[120]])])
      else 
        bif countE [a0, a1, a2, a3, a4] != 0 then some (AEnd.ret [(AV.d Ty.str []).pr ((I 0).pr (AV.nils.pr (AV.d Ty.unit PUnit.unit))), I (countE [a0, a1, a2, a3, a4])], [(0, AObj.arr 25 ((i64T).pair ((i64T).slice.pair ((i64T).slice.pair Ty.unit))) 0 false [(t, [a0, a1, a2, a3, a4], x, PUnit.unit)]), (1, AObj.arr 37 (Ty.str.pair ((i64T).pair ((i64T).pair ((i64T).pair (Ty.str.pair (((i64T).pair ((i64T).slice.pair ((i64T).slice.pair Ty.unit))).pair ((i64T).slice.pair Ty.unit))))))) 0 true [([112, 101, 114, 109], 7, 0, 0, [], (0, [], [], PUnit.unit), [], PUnit.unit)]), (2, AObj.arr 9 Ty.str 0 false [[120]])])
        else 
          bif t == 6 then some (AEnd.ret [(AV.d Ty.str []).pr ((I 0).pr (AV.nils.pr (AV.d Ty.unit PUnit.unit))), I 4], [(0, AObj.arr 25 ((i64T).pair ((i64T).slice.pair ((i64T).slice.pair Ty.unit))) 0 false [(t, [a0, a1, a2, a3, a4], x, PUnit.unit)]), (1, AObj.arr 37 (Ty.str.pair ((i64T).pair ((i64T).pair ((i64T).pair (Ty.str.pair (((i64T).pair ((i64T).slice.pair ((i64T).slice.pair Ty.unit))).pair ((i64T).slice.pair Ty.unit))))))) 0 true [([112, 101, 114, 109], 7, 0, 0, [], (0, [], [], PUnit.unit), [], PUnit.unit)]), (2, AObj.arr 9 Ty.str 0 false [[120]])])
          else some (AEnd.ret [(AV.d Ty.str []).pr ((I 0).pr (AV.nils.pr (AV.d Ty.unit PUnit.unit))), I 4], [(0, AObj.arr 25 ((i64T).pair ((i64T).slice.pair ((i64T).slice.pair Ty.unit))) 0 false [(t, [a0, a1, a2, a3, a4], x, PUnit.unit)]), (1, AObj.arr 37 (Ty.str.pair ((i64T).pair ((i64T).pair ((i64T).pair (Ty.str.pair (((i64T).pair ((i64T).slice.pair ((i64T).slice.pair Ty.unit))).pair ((i64T).slice.pair Ty.unit))))))) 0 true [([112, 101, 114, 109], 7, 0, 0, [], (0, [], [], PUnit.unit), [], PUnit.unit)]), (2, AObj.arr 9 Ty.str 0 false [[120]])])
  else none := by kernel_rfl
theorem mz6_eq (t a0 a1 a2 a3 a4 a5 : Int) (x : List Int) : runC gBh Tryz.f42 6 [(3, [2, 4, 6, 9, 10, 11])] [nodeA strTR [] [121] (.os 2 0) (.os 1 0), .os 0 0] (hpTb false t [a0, a1, a2, a3, a4, a5] x [lattr strPerm []]) ah =
  bif decide (6 ≤ 9223372036854775807 ∧ x.length ≤ 9223372036854775807) then 
    bif tenE t [a0, a1, a2, a3, a4, a5] x != 0 then some (AEnd.ret [(AV.d Ty.str []).pr ((I 0).pr (AV.nils.pr (AV.d Ty.unit PUnit.unit))), I 1], [(0, AObj.arr 25 ((i64T).pair ((i64T).slice.pair ((i64T).slice.pair Ty.unit))) 0 false [(t, [a0, a1, a2, a3, a4, a5], x, PUnit.unit)]), (1, AObj.arr 37 (Ty.str.pair ((i64T).pair ((i64T).pair ((i64T).pair (Ty.str.pair (((i64T).pair ((i64T).slice.pair ((i64T).slice.pair Ty.unit))).pair ((i64T).slice.pair Ty.unit))))))) 0 false [([112, 101, 114, 109], 7, 0, 0, [], (0, [], [], PUnit.unit), [], PUnit.unit)]), (2, AObj.arr 9 Ty.str 0 false [[120]])])
    else 
      bif !numOk t 0 then some (AEnd.ret [(AV.d Ty.str []).pr ((I 0).pr (AV.nils.pr (AV.d Ty.unit PUnit.unit))), I 5], [(0, AObj.arr 25 ((i64T).pair ((i64T).slice.pair ((i64T).slice.pair Ty.unit))) 0 false [(t, [a0, a1, a2, a3, a4, a5], x, PUnit.unit)]), (1, AObj.arr 37 (Ty.str.pair ((i64T).pair ((i64T).pair ((i64T).pair (Ty.str.pair (((i64T).pair ((i64T).slice.pair ((i64T).slice.pair Ty.unit))).pair ((i64T).slice.pair Ty.unit))))))) 0 true [([112, 101, 114, 109], 7, 0, 0, [], (0, [], [], PUnit.unit), [], PUnit.unit)]), (2, AObj.arr 9 Ty.str 0 false [[120]])])
      else 
        bif countE [a0, a1, a2, a3, a4, a5] != 0 then some (AEnd.ret [(AV.d Ty.str []).pr ((I 0).pr (AV.nils.pr (AV.d Ty.unit PUnit.unit))), I (countE [a0, a1, a2, a3, a4, a5])], [(0, AObj.arr 25 ((i64T).pair ((i64T).slice.pair ((i64T).slice.pair Ty.unit))) 0 false [(t, [a0, a1, a2, a3, a4, a5], x, PUnit.unit)]), (1, AObj.arr 37 (Ty.str.pair ((i64T).pair ((i64T).pair ((i64T).pair (Ty.str.pair (((i64T).pair ((i64T).slice.pair ((i64T).slice.pair Ty.unit))).pair ((i64T).slice.pair Ty.unit))))))) 0 true [([112, 101, 114, 109], 7, 0, 0, [], (0, [], [], PUnit.unit), [], PUnit.unit)]), (2, AObj.arr 9 Ty.str 0 false [[120]])])
        else 
          bif t == 6 then some (AEnd.ret [(AV.d Ty.str []).pr ((I 0).pr (AV.nils.pr (AV.d Ty.unit PUnit.unit))), I 4], [(0, AObj.arr 25 ((i64T).pair ((i64T).slice.pair ((i64T).slice.pair Ty.unit))) 0 false [(t, [a0, a1, a2, a3, a4, a5], x, PUnit.unit)]), (1, AObj.arr 37 (Ty.str.pair ((i64T).pair ((i64T).pair ((i64T).pair (Ty.str.pair (((i64T).pair ((i64T).slice.pair ((i64T).slice.pair Ty.unit))).pair ((i64T).slice.pair Ty.unit))))))) 0 true [([112, 101, 114, 109], 7, 0, 0, [], (0, [], [], PUnit.unit), [], PUnit.unit)]), (2, AObj.arr 9 Ty.str 0 false [[120]])])
          else some (AEnd.ret [(AV.d Ty.str []).pr ((I 0).pr (AV.nils.pr (AV.d Ty.unit PUnit.unit))), I 4], [(0, AObj.arr 25 ((i64T).pair ((i64T).slice.pair ((i64T).slice.pair Ty.unit))) 0 false [(t, [a0, a1, a2, a3, a4, a5], x, PUnit.unit)]), (1, AObj.arr 37 (Ty.str.pair ((i64T).pair ((i64T).pair ((i64T).pair (Ty.str.pair (((i64T).pair ((i64T).slice.pair ((i64T).slice.pair Ty.unit))).pair ((i64T).slice.pair Ty.unit))))))) 0 true [([112, 101, 114, 109], 7, 0, 0, [], (0, [], [], PUnit.unit), [], PUnit.unit)]), (2, AObj.arr 9 Ty.str 0 false [[120]])])
  else none := by kernel_rfl
end Go.Proofs.XGT
namespace Go.Proofs.XGT
open Go.Vm Go
set_option maxRecDepth 100000
set_option maxHeartbeats 4000000
noncomputable def C_nuz : Code := codeOf Tryz.f160
noncomputable def cf_nuz : Cfg := ⟨47, 6, 2, [(4, [3, 4, 5, 14, 21, 22, 23])], true⟩
def hpNz (pm : List Int) : LHp := [(0, .arr 37 (Y1) 0 true [lattr strPerm pm]), (1, .arr 9 .str 0 false [[120]])]
theorem nuz_eqH (hl : Hl) (c lo hi p : Int) (pm : List Int) : runH g106 Tryz.f160 6 [(4, [3, 4, 5, 14, 21, 22, 23])] [4] hl [nodeA strTR [] [121] (.os 1 0) (.os 0 0), .d .str strPerm, .nils, I c, I lo, I hi] (hpNz (p :: pm)) ah =
  (app [] (p :: pm)).bind fun v0 =>
    hl (cL (cL (cR (cL (cR (cR (cR C_nuz))))))) _ { fr := mkFr 6 [(3, I c), (4, I lo), (5, I hi), (14, AV.nils), (21, AV.os 2 0), (22, I (Int.ofNat v0.length)), (23, I 0)], hp := [(0, AObj.arr 37 (Ty.str.pair ((i64T).pair ((i64T).pair ((i64T).pair (Ty.str.pair (((i64T).pair ((i64T).slice.pair ((i64T).slice.pair Ty.unit))).pair ((i64T).slice.pair Ty.unit))))))) 0 true [([112, 101, 114, 109], 7, 0, 0, [], (0, [], [], PUnit.unit), p :: pm, PUnit.unit)]), (1, AObj.arr 9 Ty.str 0 false [[120]]), (2, AObj.arr 2 (i64T) 0 false v0)], nx := 5 } (blkK 0 (seqH g106 cf_nuz [4] hl (cR (cR (cR (cR C_nuz)))) (endC Tryz.prog 2 Tryz.f160.results.toList ah))) := by kernel_rfl
theorem nuz_eq (c lo hi p : Int) (pm : List Int) : runC g106 Tryz.f160 6 [(4, [3, 4, 5, 14, 21, 22, 23])] [nodeA strTR [] [121] (.os 1 0) (.os 0 0), .d .str strPerm, .nils, I c, I lo, I hi] (hpNz (p :: pm)) ah =
  (app [] (p :: pm)).bind fun v0 =>
    (hlp g106 cf_nuz) (cL (cL (cR (cL (cR (cR (cR C_nuz))))))) _ { fr := mkFr 6 [(3, I c), (4, I lo), (5, I hi), (14, AV.nils), (21, AV.os 2 0), (22, I (Int.ofNat v0.length)), (23, I 0)], hp := [(0, AObj.arr 37 (Ty.str.pair ((i64T).pair ((i64T).pair ((i64T).pair (Ty.str.pair (((i64T).pair ((i64T).slice.pair ((i64T).slice.pair Ty.unit))).pair ((i64T).slice.pair Ty.unit))))))) 0 true [([112, 101, 114, 109], 7, 0, 0, [], (0, [], [], PUnit.unit), p :: pm, PUnit.unit)]), (1, AObj.arr 9 Ty.str 0 false [[120]]), (2, AObj.arr 2 (i64T) 0 false v0)], nx := 5 } (blkK 0 (seqH g106 cf_nuz [4] (hlp g106 cf_nuz) (cR (cR (cR (cR C_nuz)))) (endC Tryz.prog 2 Tryz.f160.results.toList ah))) := runH_runC.trans (nuz_eqH (hlp g106 cf_nuz) c lo hi p pm)
def stNz0 (c lo hi : Int) (pm L : List Int) (i : Int) : LSt := { fr := mkFr 6 [(3, I c), (4, I lo), (5, I hi), (14, AV.nils), (21, AV.os 2 0), (22, I (Int.ofNat L.length)), (23, I i)], hp := hpNz pm ++ [(2, AObj.arr 2 i64T 0 false L)], nx := 5 }
theorem nuz_st0H (hl : Hl) (c lo hi : Int) (pm L : List Int) (i : Int) (n : Nat) {R : Type} (k : AEx → LSt → Option R) : lpH g106 cf_nuz [4] hl (cL (cL (cR (cL (cR (cR (cR C_nuz))))))) (n + 1) (stNz0 c lo hi pm L i) k =
  bif decide (i < Int.ofNat L.length) then (idx L i).bind fun v1 =>
      (L[i.toNat]?).bind fun v2 =>
        bif decide (lo ≤ v2) then 
          bif !decide (v2 ≤ hi) then k (AEx.panic 123 4) { fr := mkFr 6 [(3, I c), (4, I lo), (5, I hi), (14, AV.nils), (16, I v2), (21, AV.os 2 0), (22, I (Int.ofNat L.length)), (23, I i), (24, B true), (25, AV.oe 2 0 i.toNat), (26, I v2), (27, I lo), (28, I v2), (29, B (decide (lo ≤ v2))), (30, B true), (31, I v2), (32, I hi), (33, B (decide (v2 ≤ hi))), (34, B (decide (v2 ≤ hi)))], hp := [(0, AObj.arr 37 (Ty.str.pair ((i64T).pair ((i64T).pair ((i64T).pair (Ty.str.pair (((i64T).pair ((i64T).slice.pair ((i64T).slice.pair Ty.unit))).pair ((i64T).slice.pair Ty.unit))))))) 0 true [([112, 101, 114, 109], 7, 0, 0, [], (0, [], [], PUnit.unit), pm, PUnit.unit)]), (1, AObj.arr 9 Ty.str 0 false [[120]]), (2, AObj.arr 2 (i64T) 0 false L)], nx := 5 }
          else lpH g106 cf_nuz [4] hl (cL (cL (cR (cL (cR (cR (cR C_nuz))))))) n { fr := mkFr 6 [(3, I c), (4, I lo), (5, I hi), (14, AV.os 2 0), (21, AV.os 3 0), (22, I (Int.ofNat L.length)), (23, I (IntKind.i64.wrap (i + 1)))], hp := [(0, AObj.arr 37 (Ty.str.pair ((i64T).pair ((i64T).pair ((i64T).pair (Ty.str.pair (((i64T).pair ((i64T).slice.pair ((i64T).slice.pair Ty.unit))).pair ((i64T).slice.pair Ty.unit))))))) 0 true [([112, 101, 114, 109], 7, 0, 0, [], (0, [], [], PUnit.unit), pm, PUnit.unit)]), (1, AObj.arr 9 Ty.str 0 false [[120]]), (2, AObj.arr 3 (i64T) 0 false [v2]), (3, AObj.arr 2 (i64T) 0 false L)], nx := 6 } k
        else k (AEx.panic 123 4) { fr := mkFr 6 [(3, I c), (4, I lo), (5, I hi), (14, AV.nils), (16, I v2), (21, AV.os 2 0), (22, I (Int.ofNat L.length)), (23, I i), (24, B true), (25, AV.oe 2 0 i.toNat), (26, I v2), (27, I lo), (28, I v2), (29, B (decide (lo ≤ v2))), (30, B false), (31, AV.tup []), (32, AV.tup []), (33, AV.tup []), (34, B false)], hp := [(0, AObj.arr 37 (Ty.str.pair ((i64T).pair ((i64T).pair ((i64T).pair (Ty.str.pair (((i64T).pair ((i64T).slice.pair ((i64T).slice.pair Ty.unit))).pair ((i64T).slice.pair Ty.unit))))))) 0 true [([112, 101, 114, 109], 7, 0, 0, [], (0, [], [], PUnit.unit), pm, PUnit.unit)]), (1, AObj.arr 9 Ty.str 0 false [[120]]), (2, AObj.arr 2 (i64T) 0 false L)], nx := 5 }
  else k (AEx.exit 0) { fr := mkFr 6 [(3, I c), (4, I lo), (5, I hi), (14, AV.nils), (21, AV.os 2 0), (22, I (Int.ofNat L.length)), (23, I i), (24, B false)], hp := [(0, AObj.arr 37 (Ty.str.pair ((i64T).pair ((i64T).pair ((i64T).pair (Ty.str.pair (((i64T).pair ((i64T).slice.pair ((i64T).slice.pair Ty.unit))).pair ((i64T).slice.pair Ty.unit))))))) 0 true [([112, 101, 114, 109], 7, 0, 0, [], (0, [], [], PUnit.unit), pm, PUnit.unit)]), (1, AObj.arr 9 Ty.str 0 false [[120]]), (2, AObj.arr 2 (i64T) 0 false L)], nx := 5 } := by kernel_rfl
theorem nuz_st0 (c lo hi : Int) (pm L : List Int) (i : Int) (n : Nat) {R : Type} (k : AEx → LSt → Option R) : lp g106 cf_nuz (cL (cL (cR (cL (cR (cR (cR C_nuz))))))) (n + 1) (stNz0 c lo hi pm L i) k =
  bif decide (i < Int.ofNat L.length) then (idx L i).bind fun v1 =>
      (L[i.toNat]?).bind fun v2 =>
        bif decide (lo ≤ v2) then 
          bif !decide (v2 ≤ hi) then k (AEx.panic 123 4) { fr := mkFr 6 [(3, I c), (4, I lo), (5, I hi), (14, AV.nils), (16, I v2), (21, AV.os 2 0), (22, I (Int.ofNat L.length)), (23, I i), (24, B true), (25, AV.oe 2 0 i.toNat), (26, I v2), (27, I lo), (28, I v2), (29, B (decide (lo ≤ v2))), (30, B true), (31, I v2), (32, I hi), (33, B (decide (v2 ≤ hi))), (34, B (decide (v2 ≤ hi)))], hp := [(0, AObj.arr 37 (Ty.str.pair ((i64T).pair ((i64T).pair ((i64T).pair (Ty.str.pair (((i64T).pair ((i64T).slice.pair ((i64T).slice.pair Ty.unit))).pair ((i64T).slice.pair Ty.unit))))))) 0 true [([112, 101, 114, 109], 7, 0, 0, [], (0, [], [], PUnit.unit), pm, PUnit.unit)]), (1, AObj.arr 9 Ty.str 0 false [[120]]), (2, AObj.arr 2 (i64T) 0 false L)], nx := 5 }
          else lp g106 cf_nuz (cL (cL (cR (cL (cR (cR (cR C_nuz))))))) n { fr := mkFr 6 [(3, I c), (4, I lo), (5, I hi), (14, AV.os 2 0), (21, AV.os 3 0), (22, I (Int.ofNat L.length)), (23, I (IntKind.i64.wrap (i + 1)))], hp := [(0, AObj.arr 37 (Ty.str.pair ((i64T).pair ((i64T).pair ((i64T).pair (Ty.str.pair (((i64T).pair ((i64T).slice.pair ((i64T).slice.pair Ty.unit))).pair ((i64T).slice.pair Ty.unit))))))) 0 true [([112, 101, 114, 109], 7, 0, 0, [], (0, [], [], PUnit.unit), pm, PUnit.unit)]), (1, AObj.arr 9 Ty.str 0 false [[120]]), (2, AObj.arr 3 (i64T) 0 false [v2]), (3, AObj.arr 2 (i64T) 0 false L)], nx := 6 } k
        else k (AEx.panic 123 4) { fr := mkFr 6 [(3, I c), (4, I lo), (5, I hi), (14, AV.nils), (16, I v2), (21, AV.os 2 0), (22, I (Int.ofNat L.length)), (23, I i), (24, B true), (25, AV.oe 2 0 i.toNat), (26, I v2), (27, I lo), (28, I v2), (29, B (decide (lo ≤ v2))), (30, B false), (31, AV.tup []), (32, AV.tup []), (33, AV.tup []), (34, B false)], hp := [(0, AObj.arr 37 (Ty.str.pair ((i64T).pair ((i64T).pair ((i64T).pair (Ty.str.pair (((i64T).pair ((i64T).slice.pair ((i64T).slice.pair Ty.unit))).pair ((i64T).slice.pair Ty.unit))))))) 0 true [([112, 101, 114, 109], 7, 0, 0, [], (0, [], [], PUnit.unit), pm, PUnit.unit)]), (1, AObj.arr 9 Ty.str 0 false [[120]]), (2, AObj.arr 2 (i64T) 0 false L)], nx := 5 }
  else k (AEx.exit 0) { fr := mkFr 6 [(3, I c), (4, I lo), (5, I hi), (14, AV.nils), (21, AV.os 2 0), (22, I (Int.ofNat L.length)), (23, I i), (24, B false)], hp := [(0, AObj.arr 37 (Ty.str.pair ((i64T).pair ((i64T).pair ((i64T).pair (Ty.str.pair (((i64T).pair ((i64T).slice.pair ((i64T).slice.pair Ty.unit))).pair ((i64T).slice.pair Ty.unit))))))) 0 true [([112, 101, 114, 109], 7, 0, 0, [], (0, [], [], PUnit.unit), pm, PUnit.unit)]), (1, AObj.arr 9 Ty.str 0 false [[120]]), (2, AObj.arr 2 (i64T) 0 false L)], nx := 5 } := by
  have h := nuz_st0H (hlp g106 cf_nuz) c lo hi pm L i n k
  simp only [lpH_lp] at h
  exact h
noncomputable def KNz : AEx → LSt → Option (AEnd × LHp) := (blkK 0 (seqH g106 cf_nuz [4] (hlp g106 cf_nuz) (cR (cR (cR (cR C_nuz)))) (endC Tryz.prog 2 Tryz.f160.results.toList ah)))
theorem nz_p (c lo hi v i l : Int) (b : Bool) (pm L : List Int) : KNz (.panic 123 4) (stNp c lo hi v .nils i l b 2 2 (hpNz pm ++ [(2, AObj.arr 2 i64T 0 false L)]) 5) =
  some (AEnd.panic 123 4, [(0, AObj.arr 37 (Ty.str.pair ((i64T).pair ((i64T).pair ((i64T).pair (Ty.str.pair (((i64T).pair ((i64T).slice.pair ((i64T).slice.pair Ty.unit))).pair ((i64T).slice.pair Ty.unit))))))) 0 true [([112, 101, 114, 109], 7, 0, 0, [], (0, [], [], PUnit.unit), pm, PUnit.unit)]), (1, AObj.arr 9 Ty.str 0 false [[120]])]) := by kernel_rfl
theorem nz_q (c lo hi v i l : Int) (pm L : List Int) : KNz (.panic 123 4) (stNq c lo hi v .nils i l 2 2 (hpNz pm ++ [(2, AObj.arr 2 i64T 0 false L)]) 5) =
  some (AEnd.panic 123 4, [(0, AObj.arr 37 (Ty.str.pair ((i64T).pair ((i64T).pair ((i64T).pair (Ty.str.pair (((i64T).pair ((i64T).slice.pair ((i64T).slice.pair Ty.unit))).pair ((i64T).slice.pair Ty.unit))))))) 0 true [([112, 101, 114, 109], 7, 0, 0, [], (0, [], [], PUnit.unit), pm, PUnit.unit)]), (1, AObj.arr 9 Ty.str 0 false [[120]])]) := by kernel_rfl
theorem nuz_run {c p : Int} {pm : List Int} (hl : (p :: pm).length ≤ 2147483648) : runC g106 Tryz.f160 6 [(4, [3, 4, 5, 14, 21, 22, 23])] [nodeA strTR [] [121] (.os 1 0) (.os 0 0), .d .str strPerm, .nils, I c, I 0, I (-1)] (hpNz (p :: pm)) ah = some (.panic 123 4, hpNz (p :: pm)) := by
  have e1 : app [] (p :: pm) = some (p :: pm) := app_eq (by simp only [List.length_nil, lim]; omega)
  have key : runC g106 Tryz.f160 6 [(4, [3, 4, 5, 14, 21, 22, 23])] [nodeA strTR [] [121] (.os 1 0) (.os 0 0), .d .str strPerm, .nils, I c, I 0, I (-1)] (hpNz (p :: pm)) ah = lp g106 cf_nuz (cL (cL (cR (cL (cR (cR (cR C_nuz))))))) fu (stNz0 c 0 (-1) (p :: pm) (p :: pm) 0) KNz := (nuz_eq c 0 (-1) p pm).trans (by rw [e1, Option.bind_some]; kernel_rfl)
  obtain ⟨n, hn⟩ : ∃ n, fu = n + 1 := ⟨18446744073709551615, rfl⟩
  refine key.trans ?_
  rw [hn, nuz_st0, decide_eq_true (show ((0 : Int) < Int.ofNat (p :: pm).length) by simp only [Int.ofNat_eq_natCast, List.length_cons]; omega), cond_true, show idx (p :: pm) 0 = some p from rfl, Option.bind_some, show (p :: pm)[(0 : Int).toNat]? = some p from rfl, Option.bind_some]
  cases h2 : decide ((0 : Int) ≤ p) with
  | false =>
    rw [cond_false]
    have x := nz_q c 0 (-1) p 0 (Int.ofNat (p :: pm).length) (p :: pm) (p :: pm)
    unfold stNq at x
    rw [h2] at x
    exact x
  | true =>
    have h3 : decide (p ≤ -1) = false := decide_eq_false (by have := of_decide_eq_true h2; omega)
    rw [cond_true, h3, Bool.not_false, cond_true]
    have x := nz_p c 0 (-1) p 0 (Int.ofNat (p :: pm).length) false (p :: pm) (p :: pm)
    unfold stNp at x
    rw [h2, h3] at x
    exact x
def nuzL : List Int → Tq
  | [] => .no
  | p :: pm => .br (decide ((p :: pm).length ≤ 2147483648)) (.leaf (.panic 123 4) (hpNz (p :: pm))) .no
def nuzT : List AV → LHp → Tq
  | [n, .d .str nm, .nils, .d (.int .i64) c, .d (.int .i64) lo, .d (.int .i64) hi], [(0, .arr 37 ((.pair .str (.pair (.int .i64) (.pair (.int .i64) (.pair (.int .i64) (.pair .str (.pair (.pair (.int .i64) (.pair (.slice (.int .i64)) (.pair (.slice (.int .i64)) .unit))) (.pair (.slice (.int .i64)) .unit)))))))) 0 true [a]), (1, .arr 9 .str 0 false ins)] =>
    (match nodeP n with
    | some (op, nm2, out, .os 1 0, .os 0 0) => gate (decide (op = strTR) && decide (nm2 = []) && decide (out = [121]) && decide (ins = [[120]]) && decide (nm = strPerm) && isL a strPerm && decide (lo = 0) && decide (hi = -1)) (nuzL a.2.2.2.2.2.2.1)
    | _ => .no)
  | _, _ => .no
theorem nuzT_ok : FnE.OK e0.P e0.gam 160 (treeE nuzT) := by
  have h1 : FnE.OK e0.P e0.gam 160 (execFnC g106 Tryz.f160 6 [(4, [3, 4, 5, 14, 21, 22, 23])]) := y160_ok
  refine ⟨fun _ _ _ => Tq.eq _ _, fun args hs ae hs' h => ?_⟩
  have h' : (nuzT args hs).run ah = some (ae, hs') := h
  clear h
  unfold nuzT at h'
  split at h'
  · split at h'
    · rename_i hn
      rw [nodeP_some hn]
      obtain ⟨hb, h2⟩ := gate_run h'
      clear h'
      simp only [Bool.and_eq_true, decide_eq_true_eq] at hb
      obtain ⟨⟨⟨⟨⟨⟨⟨b1, b2⟩, b3⟩, b4⟩, b5⟩, b6⟩, b7⟩, b8⟩ := hb
      subst b1 b2 b3 b4 b5 b7 b8
      obtain ⟨l, rfl⟩ := isL_eq b6
      change (nuzL l).run ah = _ at h2
      cases l with
      | nil => cases h2
      | cons p pm =>
        obtain ⟨hl, h3⟩ := Tq.br_no h2
        exact h1.okC ((nuz_run (of_decide_eq_true hl)).trans h3)
    · cases h'
  · cases h'
noncomputable def mkZ : FnE := execFnC (g113.add 160 (treeElse nuzT y160)) Tryz.f162 6 [(6, [1, 6, 7, 24, 25, 26])]
theorem mkZ_ok : FnE.OK e0.P e0.gam 162 mkZ := execFnC_ok (g113_good.add (treeElse_ok nuzT_ok y160_ok)) hmix Tryz.func162 Tryz.call162 (by decide +kernel) rfl
noncomputable def mvZ : FnE := execFnC (g149.add 162 mkZ) Tryz.f127 7 []
theorem mvZ_ok : FnE.OK e0.P e0.gam 127 mvZ := execFnC_ok (g149_good.add mkZ_ok) hmix Tryz.func127 Tryz.call127 (by decide +kernel) rfl
noncomputable def dmZ : FnE := execFnC (g150.add 127 mvZ) Tryz.f94 8 [(56, [3, 132, 133, 134])]
theorem dmZ_ok : FnE.OK e0.P e0.gam 94 dmZ := execFnC_ok (g150_good.add mvZ_ok) hmix Tryz.func94 Tryz.call94 (by decide +kernel) rfl
noncomputable def ouZ : FnE := execFnDC (g152.add 94 dmZ) Tryz.f55 7 [(5, [1, 2, 4, 5, 26, 27, 28])] dd55
theorem ouZ_ok : FnE.OK e0.P e0.gam 55 ouZ := execFnDC_ok (g152_good.add dmZ_ok) (execFnD_ok (D := dd55) (g152_good.add dmZ_ok) hmix Tryz.func55 Tryz.call55 rfl rfl (by decide +kernel) rfl Tryz.func89 Tryz.call89 rfl rfl (by decide +kernel))
noncomputable def gBz : Env := g212.add 55 ouZ
theorem gBz_good : gBz.Good := g212_good.add ouZ_ok
theorem mb0_eq (t p : Int) (pm x : List Int) : runC gBz Tryz.f42 6 [(3, [2, 4, 6, 9, 10, 11])] [nodeA strTR [] [121] (.os 2 0) (.os 1 0), .os 0 0] (hpTb false t [] x [lattr strPerm (p :: pm)]) ah =
  bif decide (0 ≤ 9223372036854775807 ∧ x.length ≤ 9223372036854775807) then 
    bif tenE t [] x != 0 then some (AEnd.ret [(AV.d Ty.str []).pr ((I 0).pr (AV.nils.pr (AV.d Ty.unit PUnit.unit))), I 1], [(0, AObj.arr 25 ((i64T).pair ((i64T).slice.pair ((i64T).slice.pair Ty.unit))) 0 false [(t, [], x, PUnit.unit)]), (1, AObj.arr 37 (Ty.str.pair ((i64T).pair ((i64T).pair ((i64T).pair (Ty.str.pair (((i64T).pair ((i64T).slice.pair ((i64T).slice.pair Ty.unit))).pair ((i64T).slice.pair Ty.unit))))))) 0 false [([112, 101, 114, 109], 7, 0, 0, [], (0, [], [], PUnit.unit), p :: pm, PUnit.unit)]), (2, AObj.arr 9 Ty.str 0 false [[120]])])
    else 
      bif !numOk t 0 then some (AEnd.ret [(AV.d Ty.str []).pr ((I 0).pr (AV.nils.pr (AV.d Ty.unit PUnit.unit))), I 5], [(0, AObj.arr 25 ((i64T).pair ((i64T).slice.pair ((i64T).slice.pair Ty.unit))) 0 false [(t, [], x, PUnit.unit)]), (1, AObj.arr 37 (Ty.str.pair ((i64T).pair ((i64T).pair ((i64T).pair (Ty.str.pair (((i64T).pair ((i64T).slice.pair ((i64T).slice.pair Ty.unit))).pair ((i64T).slice.pair Ty.unit))))))) 0 true [([112, 101, 114, 109], 7, 0, 0, [], (0, [], [], PUnit.unit), p :: pm, PUnit.unit)]), (2, AObj.arr 9 Ty.str 0 false [[120]])])
      else 
        bif t == 6 then 
          bif decide ((p :: pm).length ≤ 2147483648) then some (AEnd.ret [(AV.d Ty.str []).pr ((I 0).pr (AV.nils.pr (AV.d Ty.unit PUnit.unit))), I 4], [(0, AObj.arr 25 ((i64T).pair ((i64T).slice.pair ((i64T).slice.pair Ty.unit))) 0 false [(t, [], x, PUnit.unit)]), (1, AObj.arr 37 (Ty.str.pair ((i64T).pair ((i64T).pair ((i64T).pair (Ty.str.pair (((i64T).pair ((i64T).slice.pair ((i64T).slice.pair Ty.unit))).pair ((i64T).slice.pair Ty.unit))))))) 0 true [([112, 101, 114, 109], 7, 0, 0, [], (0, [], [], PUnit.unit), p :: pm, PUnit.unit)]), (2, AObj.arr 9 Ty.str 0 false [[120]])])
          else none
        else 
          bif decide ((p :: pm).length ≤ 2147483648) then some (AEnd.ret [(AV.d Ty.str []).pr ((I 0).pr (AV.nils.pr (AV.d Ty.unit PUnit.unit))), I 4], [(0, AObj.arr 25 ((i64T).pair ((i64T).slice.pair ((i64T).slice.pair Ty.unit))) 0 false [(t, [], x, PUnit.unit)]), (1, AObj.arr 37 (Ty.str.pair ((i64T).pair ((i64T).pair ((i64T).pair (Ty.str.pair (((i64T).pair ((i64T).slice.pair ((i64T).slice.pair Ty.unit))).pair ((i64T).slice.pair Ty.unit))))))) 0 true [([112, 101, 114, 109], 7, 0, 0, [], (0, [], [], PUnit.unit), p :: pm, PUnit.unit)]), (2, AObj.arr 9 Ty.str 0 false [[120]])])
          else none
  else none := by kernel_rfl
theorem noE_ok (f : Nat) : FnE.OK e0.P e0.gam f (treeE fun _ _ => .no) := ⟨fun _ _ _ => Tq.eq _ _, fun _ _ _ _ h => by cases h⟩
noncomputable def gB0 : Env := g212.add 55 (treeE fun _ _ => .no)
theorem gB0_good : gB0.Good := g212_good.add (noE_ok _)
theorem mbe_eq (t : Int) (d pm x : List Int) : runC gB0 Tryz.f42 6 [(3, [2, 4, 6, 9, 10, 11])] [nodeA strTR [] [121] (.os 2 0) (.os 1 0), .os 0 0] (hpTb false t d x [lattr strPerm pm]) ah =
  bif decide (d.length ≤ 9223372036854775807 ∧ x.length ≤ 9223372036854775807) then 
    bif tenE t d x != 0 then some (AEnd.ret [(AV.d Ty.str []).pr ((I 0).pr (AV.nils.pr (AV.d Ty.unit PUnit.unit))), I 1], [(0, AObj.arr 25 ((i64T).pair ((i64T).slice.pair ((i64T).slice.pair Ty.unit))) 0 false [(t, d, x, PUnit.unit)]), (1, AObj.arr 37 (Ty.str.pair ((i64T).pair ((i64T).pair ((i64T).pair (Ty.str.pair (((i64T).pair ((i64T).slice.pair ((i64T).slice.pair Ty.unit))).pair ((i64T).slice.pair Ty.unit))))))) 0 false [([112, 101, 114, 109], 7, 0, 0, [], (0, [], [], PUnit.unit), pm, PUnit.unit)]), (2, AObj.arr 9 Ty.str 0 false [[120]])])
    else none
  else none := by kernel_rfl
end Go.Proofs.XGT
namespace Go.Proofs.XGT
open Go.Vm Go
set_option maxRecDepth 100000
set_option maxHeartbeats 1000000
/-- the strides of dims, row by row -/
def strN : List Nat → List Nat
  | [] => []
  | _ :: r => prodN r :: strN r
theorem strN_len : ∀ (ds : List Nat), (strN ds).length = ds.length
  | [] => rfl
  | _ :: r => by simp only [strN, List.length_cons, strN_len r]
def strI (d : List Int) : List Int := ints (strN (d.map Int.toNat))
theorem nat_dims {d : List Int} (h : countE d = 0) : ∃ D : List Nat, d = ints D ∧ D = d.map Int.toNat ∧ (∀ x ∈ D, 1 ≤ x) ∧ prodN D ≤ 65536 ∧ D.length ≤ 6 := by
  obtain ⟨p1, p2, p3, _⟩ := count_ok h
  have ed : ints (d.map Int.toNat) = d := ints_nat fun x hx => by have := p1 x hx; omega
  refine ⟨d.map Int.toNat, ed.symm, rfl, fun x hx => ?_, ?_, by rw [List.length_map]; exact p2⟩
  · obtain ⟨y, hy, rfl⟩ := List.mem_map.1 hx
    have := p1 y hy
    omega
  · have e := prodI_ints (d.map Int.toNat)
    rw [ed] at e
    omega
end Go.Proofs.XGT
namespace Go.Proofs.XGT
open Go.Vm Go
set_option maxRecDepth 100000
set_option maxHeartbeats 1000000
/-- places inside dims -/
def inb : List Nat → List Nat → Prop
  | [], [] => True
  | c :: r, d :: t => c < d ∧ inb r t
  | _, _ => False
theorem inb_len : ∀ {c d : List Nat}, inb c d → c.length = d.length
  | [], [], _ => rfl
  | _ :: _, _ :: _, h => by simp only [List.length_cons, inb_len h.2]
  | [], _ :: _, h => h.elim
  | _ :: _, [], h => h.elim
theorem inb_dig : ∀ {ds : List Nat} {q : Nat}, q < prodN ds → inb (dig ds q) ds
  | [], _, _ => trivial
  | d :: r, q, h => by
    have h : q < d * prodN r := h
    have hP : 0 < prodN r := by
      rcases Nat.eq_zero_or_pos (prodN r) with h0 | h0
      · rw [h0, Nat.mul_zero] at h; omega
      · exact h0
    exact ⟨Nat.div_lt_of_lt_mul (by rw [Nat.mul_comm]; exact h), inb_dig (Nat.mod_lt _ hP)⟩
theorem dot_dig : ∀ {ds : List Nat} {q : Nat}, q < prodN ds → dot (dig ds q) (strN ds) = q
  | [], q, h => by have h : q < 1 := h; show 0 = q; omega
  | d :: r, q, h => by
    have h : q < d * prodN r := h
    have hP : 0 < prodN r := by
      rcases Nat.eq_zero_or_pos (prodN r) with h0 | h0
      · rw [h0, Nat.mul_zero] at h; omega
      · exact h0
    show q / prodN r * prodN r + dot (dig r (q % prodN r)) (strN r) = q
    rw [dot_dig (Nat.mod_lt _ hP), Nat.mul_comm]
    exact Nat.div_add_mod _ _
theorem dot_lt : ∀ {c ds : List Nat}, inb c ds → dot c (strN ds) < prodN ds
  | [], [], _ => Nat.zero_lt_one
  | c :: r, d :: t, h => by
    have h2 := dot_lt h.2
    have h3 : (c + 1) * prodN t ≤ d * prodN t := Nat.mul_le_mul_right _ h.1
    rw [Nat.add_mul, Nat.one_mul] at h3
    show c * prodN t + dot r (strN t) < d * prodN t
    omega
  | [], _ :: _, h => h.elim
  | _ :: _, [], h => h.elim
theorem dig_dot : ∀ {c ds : List Nat}, inb c ds → dig ds (dot c (strN ds)) = c
  | [], [], _ => rfl
  | c :: r, d :: t, h => by
    have h2 := dot_lt h.2
    have h3 := dig_dot h.2
    show (c * prodN t + dot r (strN t)) / prodN t :: dig t ((c * prodN t + dot r (strN t)) % prodN t) = c :: r
    have hP : 0 < prodN t := by omega
    have e1 : (c * prodN t + dot r (strN t)) / prodN t = c := by
      rw [Nat.mul_comm, Nat.mul_add_div hP, Nat.div_eq_of_lt h2, Nat.add_zero]
    have e2 : (c * prodN t + dot r (strN t)) % prodN t = dot r (strN t) := by
      rw [Nat.mul_comm, Nat.mul_add_mod, Nat.mod_eq_of_lt h2]
    rw [e1, e2, h3]
  | [], _ :: _, h => h.elim
  | _ :: _, [], h => h.elim
theorem nodup_le : ∀ (N : Nat) {l : List Nat}, l.Nodup → (∀ x ∈ l, x < N) → l.length ≤ N
  | 0, [], _, _ => Nat.le_refl _
  | 0, x :: _, _, h => absurd (h x (by simp)) (Nat.not_lt_zero _)
  | N + 1, l, hd, h => by
    by_cases hm : N ∈ l
    · have h1 := nodup_le N (l := l.erase N) (hd.erase N) fun x hx => by
        have := h x (List.mem_of_mem_erase hx)
        have hne : x ≠ N := ((hd.mem_erase_iff).1 hx).1
        omega
      rw [List.length_erase_of_mem hm] at h1
      omega
    · have h1 := nodup_le N hd fun x hx => by
        have := h x hx
        have hne : x ≠ N := fun e => hm (e ▸ hx)
        omega
      omega
theorem nodup_perm : ∀ (N : Nat) {l : List Nat}, l.Nodup → (∀ x ∈ l, x < N) → l.length = N → l.Perm (List.range N)
  | 0, [], _, _, _ => List.Perm.nil
  | N + 1, l, hd, h, hl => by
    have hm : N ∈ l := by
      rcases Classical.em (N ∈ l) with hm | hm
      · exact hm
      · have h1 := nodup_le N hd fun x hx => by
          have := h x hx
          have hne : x ≠ N := fun e => hm (e ▸ hx)
          omega
        omega
    have h1 := nodup_perm N (l := l.erase N) (hd.erase N) (fun x hx => by
      have := h x (List.mem_of_mem_erase hx)
      have hne : x ≠ N := ((hd.mem_erase_iff).1 hx).1
      omega) (by rw [List.length_erase_of_mem hm]; omega)
    rw [List.range_succ]
    exact (List.perm_cons_erase hm).trans ((h1.cons N).trans (List.perm_append_singleton N (List.range N)).symm)
/-- xs by the order l -/
def pmN (xs l : List Nat) : List Nat := l.map fun p => xs.getD p 0
theorem pmN_len (xs l : List Nat) : (pmN xs l).length = l.length := List.length_map _
theorem getD_map {f : Nat → Nat} {l : List Nat} {j : Nat} (h : j < l.length) : (l.map f).getD j 0 = f (l.getD j 0) := by
  rw [List.getD_eq_getElem?_getD, List.getD_eq_getElem?_getD, List.getElem?_map, List.getElem?_eq_getElem h]
  rfl
theorem range_getD (xs : List Nat) : (List.range xs.length).map (fun k => xs.getD k 0) = xs := by
  apply List.ext_getElem?
  intro m
  by_cases h : m < xs.length
  · rw [List.getElem?_map, List.getElem?_range h, Option.map_some, List.getD_eq_getElem?_getD, List.getElem?_eq_getElem h]
    rfl
  · rw [List.getElem?_eq_none (by rw [List.length_map, List.length_range]; omega), List.getElem?_eq_none (by omega)]
theorem pmN_perm {xs l : List Nat} (h : l.Perm (List.range xs.length)) : (pmN xs l).Perm xs := by
  have := h.map (fun k => xs.getD k 0)
  rw [range_getD] at this
  exact this
theorem prodN_perm {a b : List Nat} (h : a.Perm b) : prodN a = prodN b := by
  induction h with
  | nil => rfl
  | cons x _ ih => show x * _ = x * _; rw [ih]
  | swap x y l => show y * (x * _) = x * (y * _); rw [← Nat.mul_assoc, ← Nat.mul_assoc, Nat.mul_comm x y]
  | trans _ _ h1 h2 => exact h1.trans h2
theorem dot_sum : ∀ (l : List Nat) (f g : Nat → Nat), dot (l.map f) (l.map g) = (l.map fun j => f j * g j).sum
  | [], _, _ => rfl
  | a :: r, f, g => by
    show f a * g a + dot (r.map f) (r.map g) = _
    rw [dot_sum r f g, List.map_cons, List.sum_cons]
theorem dot_pm {c s l : List Nat} (hs : s.length = c.length) (h : l.Perm (List.range c.length)) : dot (pmN c l) (pmN s l) = dot c s := by
  have h1 : dot ((List.range c.length).map fun k => c.getD k 0) ((List.range c.length).map fun k => s.getD k 0) = dot c s := by
    rw [range_getD, ← hs, range_getD]
  unfold pmN
  rw [dot_sum, (h.map _).sum_nat, ← dot_sum, h1]
/-- back leads back: l then back is nothing, back then l is nothing -/
structure Opp (l back : List Nat) : Prop where
  len : back.length = l.length
  one : ∀ j, j < l.length → back.getD (l.getD j 0) 0 = j
  lt : ∀ j, j < l.length → l.getD j 0 < l.length
  pm : l.Perm (List.range l.length)
theorem Opp.two {l back : List Nat} (h : Opp l back) : ∀ k, k < l.length → l.getD (back.getD k 0) 0 = k := by
  intro k hk
  have hm : k ∈ l := h.pm.symm.subset (List.mem_range.2 hk)
  obtain ⟨j, hj, rfl⟩ := List.mem_iff_getElem.1 hm
  have e : l[j] = l.getD j 0 := by rw [List.getD_eq_getElem?_getD, List.getElem?_eq_getElem hj]; rfl
  rw [e, h.one j hj]
theorem Opp.lt2 {l back : List Nat} (h : Opp l back) : ∀ k, k < l.length → back.getD k 0 < l.length := by
  intro k hk
  have hm : k ∈ l := h.pm.symm.subset (List.mem_range.2 hk)
  obtain ⟨j, hj, rfl⟩ := List.mem_iff_getElem.1 hm
  have e : l[j] = l.getD j 0 := by rw [List.getD_eq_getElem?_getD, List.getElem?_eq_getElem hj]; rfl
  rw [e, h.one j hj]
  exact hj
theorem Opp.pm2 {l back : List Nat} (h : Opp l back) : back.Perm (List.range l.length) := by
  refine nodup_perm l.length ?_ (fun x hx => ?_) h.len
  · refine List.pairwise_iff_getElem.2 fun i j hi hj hij e => ?_
    have e1 : back[i] = back.getD i 0 := by rw [List.getD_eq_getElem?_getD, List.getElem?_eq_getElem hi]; rfl
    have e2 : back[j] = back.getD j 0 := by rw [List.getD_eq_getElem?_getD, List.getElem?_eq_getElem hj]; rfl
    rw [e1, e2] at e
    rw [h.len] at hi hj
    have h1 := h.two i hi
    have h2 := h.two j hj
    rw [e, h2] at h1
    omega
  · obtain ⟨k, hk, rfl⟩ := List.mem_iff_getElem.1 hx
    have e : back[k] = back.getD k 0 := by rw [List.getD_eq_getElem?_getD, List.getElem?_eq_getElem hk]; rfl
    rw [e]
    exact h.lt2 k (by rw [← h.len]; exact hk)
theorem Opp.symm {l back : List Nat} (h : Opp l back) : Opp back l :=
  ⟨h.len.symm, fun j hj => h.two j (by rw [← h.len]; exact hj), fun j hj => by rw [h.len] at hj ⊢; exact h.lt2 j hj, by rw [h.len]; exact h.pm2⟩
theorem pm_pm {l back xs : List Nat} (h : Opp l back) (hx : xs.length = l.length) : pmN (pmN xs l) back = xs := by
  apply List.ext_getElem?
  intro k
  by_cases hk : k < l.length
  · have e : (pmN (pmN xs l) back)[k]? = some ((pmN (pmN xs l) back).getD k 0) := by
      rw [List.getD_eq_getElem?_getD, List.getElem?_eq_getElem (by rw [pmN_len, h.len]; exact hk)]
      rfl
    rw [e]
    unfold pmN
    rw [getD_map (by rw [h.len]; exact hk), getD_map (h.lt2 k hk), h.two k hk, List.getD_eq_getElem?_getD, List.getElem?_eq_getElem (by rw [hx]; exact hk)]
    rfl
  · rw [List.getElem?_eq_none (by rw [pmN_len, h.len]; omega), List.getElem?_eq_none (by omega)]
theorem inb_iff {c d : List Nat} : inb c d ↔ c.length = d.length ∧ ∀ k, k < d.length → c.getD k 0 < d.getD k 0 := by
  induction c generalizing d with
  | nil => cases d with
    | nil => exact ⟨fun _ => ⟨rfl, fun k hk => absurd hk (Nat.not_lt_zero _)⟩, fun _ => trivial⟩
    | cons _ _ => exact ⟨fun h => h.elim, fun h => absurd h.1 (by simp)⟩
  | cons a r ih => cases d with
    | nil => exact ⟨fun h => h.elim, fun h => absurd h.1 (by simp)⟩
    | cons b t =>
      constructor
      · intro h
        obtain ⟨h1, h2⟩ := ih.1 h.2
        refine ⟨by simp only [List.length_cons, h1], fun k hk => ?_⟩
        cases k with
        | zero => exact h.1
        | succ k => exact h2 k (by simp only [List.length_cons] at hk; omega)
      · intro h
        refine ⟨h.2 0 (by simp), ih.2 ⟨by have := h.1; simp only [List.length_cons] at this; omega, fun k hk => h.2 (k + 1) (by simp only [List.length_cons]; omega)⟩⟩
theorem inb_pm {l c d : List Nat} (h : inb c d) (hl : ∀ j, j < l.length → l.getD j 0 < d.length) : inb (pmN c l) (pmN d l) := by
  obtain ⟨_, h2⟩ := inb_iff.1 h
  refine inb_iff.2 ⟨by rw [pmN_len, pmN_len], fun k hk => ?_⟩
  rw [pmN_len] at hk
  unfold pmN
  rw [getD_map hk, getD_map hk]
  exact h2 _ (hl k hk)
/-- where the element at q of what is turned back stands in what was turned -/
theorem back_at {l back ds : List Nat} (h : Opp l back) (hd : ds.length = l.length) {q : Nat} (hq : q < prodN ds) :
    ∃ q', dot (dig ds q) (pmN (strN (pmN ds l)) back) = q' ∧ q' < prodN (pmN ds l) ∧ dot (dig (pmN ds l) q') (pmN (strN ds) l) = q := by
  have hi := inb_dig hq
  have hc : (dig ds q).length = l.length := (inb_len hi).trans hd
  have hi2 : inb (pmN (dig ds q) l) (pmN ds l) := inb_pm hi fun j hj => by rw [hd]; exact h.lt j hj
  have hs : (strN (pmN ds l)).length = l.length := by rw [strN_len, pmN_len]
  refine ⟨dot (pmN (dig ds q) l) (strN (pmN ds l)), ?_, dot_lt hi2, ?_⟩
  · rw [← dot_pm (l := l) (by rw [pmN_len, h.len, hc]) (by rw [hc]; exact h.pm), pm_pm h.symm (by rw [hs, h.len])]
  · rw [dig_dot hi2, dot_pm (by rw [strN_len, hd, hc]) (by rw [hc]; exact h.pm)]
    exact dot_dig hq
theorem turn_lt {l back ds : List Nat} (h : Opp l back) (hd : ds.length = l.length) {q : Nat} (hq : q < prodN (pmN ds l)) : dot (dig (pmN ds l) q) (pmN (strN ds) l) < prodN ds := by
  have hi := inb_dig hq
  have hc : (dig (pmN ds l) q).length = l.length := (inb_len hi).trans (pmN_len _ _)
  have hi2 : inb (pmN (dig (pmN ds l) q) back) ds := by
    have := inb_pm (l := back) hi fun j hj => by rw [pmN_len]; rw [h.len] at hj; exact h.lt2 j hj
    rw [pm_pm h hd] at this
    exact this
  have e : dot (dig (pmN ds l) q) (pmN (strN ds) l) = dot (pmN (dig (pmN ds l) q) back) (strN ds) := by
    have := dot_pm (c := pmN (dig (pmN ds l) q) back) (s := strN ds) (l := l) (by rw [strN_len, pmN_len, h.len, hd]) (by rw [pmN_len, h.len]; exact h.pm)
    rw [pm_pm h.symm (by rw [h.len, hc])] at this
    exact this
  rw [e]
  exact dot_lt hi2
end Go.Proofs.XGT
namespace Go.Proofs.XGT
open Go.Vm Go
set_option maxRecDepth 100000
set_option maxHeartbeats 1000000
def dupP (p : Int) : List Int → Bool → Bool
  | [], k => k
  | q :: r, k => bif p == q then true else dupP p r k
/-- is a number there twice (pre stands ahead)? -/
def dupL (pre : List Int) : List Int → Bool
  | [] => false
  | p :: r => dupP p pre (dupL (pre ++ [p]) r)
/-- l is an order of the dims d -/
def ordD (d l : List Int) : Bool := numC (Int.ofNat d.length) 0 (Int.ofNat d.length - 1) l && !dupL [] l
def permI (d l : List Int) : List Int := l.map fun p => d.getD p.toNat 0
theorem numC_in {c lo hi : Int} {l : List Int} (h : numC c lo hi l = true) : (∀ v ∈ l, lo ≤ v ∧ v ≤ hi) ∧ (l.length : Int) = c := by
  unfold numC at h
  simp only [Bool.and_eq_true, beq_iff_eq] at h
  refine ⟨fun v hv => ?_, h.2⟩
  have := List.all_eq_true.1 h.1 v hv
  simp only [Bool.and_eq_true, decide_eq_true_eq] at this
  exact this
theorem dupP_no {p : Int} {k : Bool} : ∀ {pre : List Int}, dupP p pre k = false → (∀ q ∈ pre, p ≠ q) ∧ k = false
  | [], h => ⟨fun _ hq => (by cases hq), h⟩
  | q :: r, h => by
    unfold dupP at h
    cases e : p == q with
    | true => rw [e] at h; cases h
    | false =>
      rw [e, cond_false] at h
      obtain ⟨h1, h2⟩ := dupP_no h
      refine ⟨fun z hz => ?_, h2⟩
      rcases List.mem_cons.1 hz with rfl | hz
      · exact fun h3 => by rw [h3, beq_self_eq_true] at e; cases e
      · exact h1 z hz
theorem dupL_no : ∀ {l pre : List Int}, dupL pre l = false → pre.Nodup → (pre ++ l).Nodup
  | [], pre, _, hp => by rw [List.append_nil]; exact hp
  | p :: r, pre, h, hp => by
    unfold dupL at h
    obtain ⟨h1, h2⟩ := dupP_no h
    have h3 := dupL_no h2 (List.nodup_append.2 ⟨hp, by simp, fun a ha b hb => by
      rw [List.mem_singleton] at hb
      subst hb
      exact fun e => h1 a ha e.symm⟩)
    rw [List.append_assoc] at h3
    exact h3
theorem nodup_ints {L : List Nat} (h : (ints L).Nodup) : L.Nodup := by
  unfold ints at h
  exact (List.pairwise_map.1 h).imp fun hab e => hab (by rw [e])
theorem ord_nat {d l : List Int} (hc : countE d = 0) (h : ordD d l = true) : ∃ D L : List Nat, d = ints D ∧ l = ints L ∧ (∀ x ∈ D, 1 ≤ x) ∧ prodN D ≤ 65536 ∧ D.length ≤ 6 ∧ L.length = D.length ∧ (∀ j ∈ L, j < D.length) ∧ L.Perm (List.range L.length) := by
  obtain ⟨D, rfl, _, h1, h2, h3⟩ := nat_dims hc
  unfold ordD at h
  simp only [Bool.and_eq_true, Bool.not_eq_true'] at h
  obtain ⟨hn, hd⟩ := h
  obtain ⟨n1, n2⟩ := numC_in hn
  rw [ints_len] at n1 n2
  have el : ints (l.map Int.toNat) = l := ints_nat fun v hv => (n1 v hv).1
  have nd : (l.map Int.toNat).Nodup := nodup_ints (by rw [el]; exact dupL_no hd (by simp))
  have hL : ∀ j ∈ l.map Int.toNat, j < D.length := fun j hj => by
    obtain ⟨v, hv, rfl⟩ := List.mem_map.1 hj
    have := n1 v hv
    simp only [Int.ofNat_eq_natCast] at this
    omega
  have hlen : (l.map Int.toNat).length = D.length := by rw [List.length_map]; simp only [Int.ofNat_eq_natCast] at n2; omega
  refine ⟨D, l.map Int.toNat, rfl, el.symm, h1, h2, h3, hlen, hL, ?_⟩
  rw [hlen]
  exact nodup_perm _ nd hL hlen
theorem ints_getD (D : List Nat) (k : Nat) : (ints D).getD k 0 = ((D.getD k 0 : Nat) : Int) := by
  unfold ints
  rw [List.getD_eq_getElem?_getD, List.getD_eq_getElem?_getD, List.getElem?_map]
  cases D[k]? <;> rfl
theorem permI_ints (D L : List Nat) : permI (ints D) (ints L) = ints (pmN D L) := by
  unfold permI pmN
  unfold ints
  rw [List.map_map, List.map_map]
  refine List.map_congr_left fun k _ => ?_
  exact ints_getD D k
theorem count_ints {D : List Nat} (h1 : ∀ x ∈ D, 1 ≤ x) (h2 : prodN D ≤ 65536) (h3 : D.length ≤ 6) : countE (ints D) = 0 := by
  refine (countE_mk (xs := ints D) (fun v hv => ?_) (by rw [ints_len]; exact h3) (by rw [prodI_ints]; omega)).1
  obtain ⟨y, hy, rfl⟩ := List.mem_map.1 hv
  have := h1 y hy
  omega
theorem mem_pmN {D L : List Nat} (hL : L.Perm (List.range L.length)) (hl : L.length = D.length) : (pmN D L).Perm D := pmN_perm (by rw [← hl]; exact hL)
theorem count_permI {d l : List Int} (hc : countE d = 0) (h : ordD d l = true) : countE (permI d l) = 0 := by
  obtain ⟨D, L, rfl, rfl, h1, h2, h3, h4, h5, h6⟩ := ord_nat hc h
  have hp := mem_pmN h6 h4
  rw [permI_ints]
  exact count_ints (fun x hx => h1 x (hp.subset hx)) (by rw [prodN_perm hp]; exact h2) (by rw [hp.length_eq]; exact h3)
theorem idx_in {xs : List Int} {p : Int} (h0 : 0 ≤ p) (h1 : p < xs.length) : idx xs p = some (xs.getD p.toNat 0) := by
  unfold idx
  rw [if_pos h0, List.getD_eq_getElem?_getD, List.getElem?_eq_getElem (by omega)]
  rfl
theorem get_in {xs : List Int} {p : Int} (h0 : 0 ≤ p) (h1 : p < xs.length) : xs[p.toNat]? = some (xs.getD p.toNat 0) := by
  rw [List.getD_eq_getElem?_getD, List.getElem?_eq_getElem (by omega)]
  rfl
theorem strI_len (d : List Int) : (strI d).length = d.length := by unfold strI; rw [ints_len, strN_len, List.length_map]
theorem strN_le : ∀ {D : List Nat}, (∀ x ∈ D, 1 ≤ x) → ∀ s ∈ strN D, s ≤ prodN D
  | [], _, s, hs => by cases hs
  | d :: r, h, s, hs => by
    have h1 := h d (by simp)
    have h2 : ∀ x ∈ r, 1 ≤ x := fun x hx => h x (by simp [hx])
    have h4 : prodN r ≤ d * prodN r := Nat.le_mul_of_pos_left _ h1
    rcases List.mem_cons.1 (show s ∈ prodN r :: strN r from hs) with rfl | hs
    · exact h4
    · exact Nat.le_trans (strN_le h2 s hs) h4
theorem far_nat {s : Nat} (h : s ≤ 65536) : farB (s : Int) = false := by
  unfold farB
  rw [decide_eq_false (by omega), cond_false]
  exact decide_eq_false (by omega)
theorem fine_ints {D S : List Nat} (h1 : ∀ x ∈ D, 1 ≤ x) (h2 : prodN D ≤ 65536) (h3 : D.length ≤ 6) (h4 : S.length = D.length) (h5 : ∀ s ∈ S, s ≤ 65536) {o : Nat} (ho : o < 65536) : okFine (o : Int) (ints D) (ints S) = true := by
  refine decide_eq_true ⟨count_ints h1 h2 h3, by rw [ints_len, ints_len]; exact h4, by omega, by omega, fun x hx => ?_⟩
  obtain ⟨y, hy, rfl⟩ := List.mem_map.1 hx
  exact far_nat (h5 y hy)
theorem ints_toNat (D : List Nat) : (ints D).map Int.toNat = D := by
  unfold ints
  rw [List.map_map]
  exact List.map_id' D
theorem strI_ints (D : List Nat) : strI (ints D) = ints (strN D) := by unfold strI; rw [ints_toNat]
theorem fine_str {d : List Int} (hc : countE d = 0) : okFine 0 d (strI d) = true := by
  obtain ⟨D, rfl, _, h1, h2, h3⟩ := nat_dims hc
  rw [strI_ints]
  exact fine_ints (o := 0) h1 h2 h3 (strN_len _) (fun s hs => Nat.le_trans (strN_le h1 s hs) h2) (by decide)
theorem getD_mem {L : List Nat} {j : Nat} (h : j < L.length) : L.getD j 0 ∈ L := by
  rw [List.getD_eq_getElem?_getD, List.getElem?_eq_getElem h]
  exact List.getElem_mem h
theorem ordB_of {d l : List Int} (hc : countE d = 0) (h : ordD d l = true) : ordB l = true := by
  obtain ⟨D, L, rfl, rfl, h1, h2, h3, h4, h5, h6⟩ := ord_nat hc h
  refine decide_eq_true ⟨by rw [ints_len]; omega, fun m hm => ?_, fun a ha b hb e => ?_⟩
  · rw [ints_len] at hm
    rw [ints_getD, ints_len]
    have := h5 _ (getD_mem hm)
    omega
  · rw [ints_len] at ha hb
    rw [ints_getD, ints_getD] at e
    have e' : L.getD a 0 = L.getD b 0 := by omega
    have nd : L.Nodup := (h6.nodup_iff).2 List.nodup_range
    rcases Nat.lt_trichotomy a b with hab | hab | hab
    · have := List.pairwise_iff_getElem.1 nd a b ha hb hab
      rw [List.getD_eq_getElem?_getD, List.getD_eq_getElem?_getD, List.getElem?_eq_getElem ha, List.getElem?_eq_getElem hb] at e'
      exact absurd e' this
    · exact hab
    · have := List.pairwise_iff_getElem.1 nd b a hb ha hab
      rw [List.getD_eq_getElem?_getD, List.getD_eq_getElem?_getD, List.getElem?_eq_getElem ha, List.getElem?_eq_getElem hb] at e'
      exact absurd e'.symm this
/-- the opposite of an order: where each number stands in it -/
def oppN (L : List Nat) : List Nat := (List.range L.length).map fun k => L.idxOf k
theorem opp_opp {L : List Nat} (h : L.Perm (List.range L.length)) : Opp L (oppN L) := by
  have nd : L.Nodup := (h.nodup_iff).2 List.nodup_range
  have lt : ∀ j, j < L.length → L.getD j 0 < L.length := fun j hj => List.mem_range.1 (h.subset (getD_mem hj))
  refine ⟨by simp [oppN], fun j hj => ?_, lt, h⟩
  have e : (oppN L).getD (L.getD j 0) 0 = L.idxOf (L.getD j 0) := by
    unfold oppN
    rw [getD_map (by rw [List.length_range]; exact lt j hj)]
    congr 1
    rw [List.getD_eq_getElem?_getD, List.getElem?_range (lt j hj)]
    rfl
  rw [e, List.getD_eq_getElem?_getD, List.getElem?_eq_getElem hj]
  exact nd.idxOf_getElem j hj
/-- turned by an order: all numbers are there -/
theorem okRG_turn {d l x : List Int} (hc : countE d = 0) (h : ordD d l = true) (hx : (x.length : Int) = prodI d) : okRG 0 (permI d l) (permI (strI d) l) x = true := by
  obtain ⟨D, L, rfl, rfl, h1, h2, h3, h4, h5, h6⟩ := ord_nat hc h
  have hp := mem_pmN h6 h4
  have ho := opp_opp h6
  rw [prodI_ints] at hx
  rw [strI_ints, permI_ints, permI_ints]
  unfold okRG
  rw [Bool.and_eq_true]
  constructor
  · refine fine_ints (o := 0) (fun x hx => h1 x (hp.subset hx)) (by rw [prodN_perm hp]; exact h2) (by rw [hp.length_eq]; exact h3) (by rw [pmN_len, pmN_len]) (fun s hs => ?_) (by decide)
    obtain ⟨j, hj, rfl⟩ := List.mem_map.1 hs
    have hlt : j < (strN D).length := by rw [strN_len]; exact h5 j hj
    exact Nat.le_trans (strN_le h1 _ (getD_mem hlt)) h2
  · refine decide_eq_true fun q hq => ?_
    rw [ints_toNat] at hq
    rw [ints_toNat, ints_toNat, Int.toNat_zero, Nat.zero_add]
    have := turn_lt ho h4.symm hq
    omega
def wprod : List Int → Int
  | [] => 1
  | a :: r => IntKind.i64.wrap (wprod r * a)
def strW : List Int → List Int
  | [] => []
  | _ :: r => wprod r :: strW r
theorem wprod_eq : ∀ {D : List Nat}, (∀ x ∈ D, 1 ≤ x) → prodN D ≤ 65536 → wprod (ints D) = (prodN D : Nat)
  | [], _, _ => rfl
  | d :: r, h, hp => by
    have h1 := h d (by simp)
    have h2 : ∀ x ∈ r, 1 ≤ x := fun x hx => h x (by simp [hx])
    have hp : d * prodN r ≤ 65536 := hp
    have h4 : prodN r ≤ d * prodN r := Nat.le_mul_of_pos_left _ h1
    show IntKind.i64.wrap (wprod (ints r) * (d : Int)) = ((d * prodN r : Nat) : Int)
    rw [wprod_eq h2 (Nat.le_trans h4 hp), ← Int.natCast_mul, Nat.mul_comm, wrap64 (by omega) (by omega)]
theorem strW_ints : ∀ {D : List Nat}, (∀ x ∈ D, 1 ≤ x) → prodN D ≤ 65536 → strW (ints D) = ints (strN D)
  | [], _, _ => rfl
  | d :: r, h, hp => by
    have h1 := h d (by simp)
    have h2 : ∀ x ∈ r, 1 ≤ x := fun x hx => h x (by simp [hx])
    have hp : d * prodN r ≤ 65536 := hp
    have h4 : prodN r ≤ d * prodN r := Nat.le_mul_of_pos_left _ h1
    show wprod (ints r) :: strW (ints r) = ((prodN r : Nat) : Int) :: ints (strN r)
    rw [wprod_eq h2 (Nat.le_trans h4 hp), strW_ints h2 (Nat.le_trans h4 hp)]
theorem strW_eq {d : List Int} (hc : countE d = 0) : strW d = strI d := by
  obtain ⟨D, rfl, _, h1, h2, h3⟩ := nat_dims hc
  rw [strI_ints]
  exact strW_ints h1 h2
end Go.Proofs.XGT
