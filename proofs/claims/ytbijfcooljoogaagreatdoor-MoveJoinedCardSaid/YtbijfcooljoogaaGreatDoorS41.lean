/- move.Do of a Slice and of a Concat: told; the law MoveJoined: run. -/
import Derived.Test.YtbijfcooljoogaaGreatDoorS40
import Derived.Test.YtbijfcooljoogaaGreatDoorS38
namespace Go.Proofs.XGT
open Go.Vm Go
set_option maxRecDepth 100000
set_option maxHeartbeats 4000000
def zTJ : AV := (I 0).pr (AV.nils.pr (AV.nils.pr (AV.d Ty.unit PUnit.unit)))
def oTJ (t : Int) : AV := (I t).pr ((AV.os 3 0).pr ((AV.os 4 0).pr (AV.d Ty.unit PUnit.unit)))
def msL (t : Int) (d x : List Int) (s e k : Int) : Tq :=
  .br (decide (x.length ≤ maxLen ∧ d.length ≤ maxLen)) (.br (tenE t d x != 0) (.leaf (.ret [zTJ, I 1]) (hpTb false t d x (at3 s e k))) (.br (slB d s e k) (.leaf (.ret [oTJ t, I 0]) (hpTb true t d x (at3 s e k) ++ [(3, .arr 3 i64T 0 false (d.set (axN k d) (slN d s e k))), (4, .arr 2 i64T 0 false (svL d x s e k))])) (.leaf (.ret [zTJ, I 4]) (hpTb true t d x (at3 s e k))))) .no
def mcL (v t1 t2 : Int) (d1 x1 d2 x2 : List Int) : Tq :=
  .br (cdB v t1 d1 x1 t2 d2 x2) (.leaf (.ret [oTJ t1, I 0]) (hpCb true v t1 t2 d1 x1 d2 x2 ++ [(3, .arr 3 i64T 0 true (ccD v d1 d2)), (4, .arr 2 i64T 0 false (ccX v d1 x1 d2 x2))])) .no
def msT : List AV → LHp → Tq
  | [n, .os 0 0], [(0, .arr 25 ((.pair (.int .i64) (.pair (.slice (.int .i64)) (.pair (.slice (.int .i64)) .unit)))) 0 false [(t, d, x, ())]), (1, .arr 37 ((.pair .str (.pair (.int .i64) (.pair (.int .i64) (.pair (.int .i64) (.pair .str (.pair (.pair (.int .i64) (.pair (.slice (.int .i64)) (.pair (.slice (.int .i64)) .unit))) (.pair (.slice (.int .i64)) .unit)))))))) 0 false [a, b, c]), (2, .arr 9 .str 0 false ins)] =>
    (match nodeP n with
    | some (op, nm, out, .os 2 0, .os 1 0) => gate (decide (op = strSL) && decide (nm = []) && decide (out = [121]) && decide (ins = [[120]]) && isL a strStarts && isL b strEnds && isL c strAxes) (sv3 a.2.2.2.2.2.2.1 b.2.2.2.2.2.2.1 c.2.2.2.2.2.2.1 fun s e k => msL t d x s e k)
    | _ => .no)
  | [n, .os 0 0], [(0, .arr 25 ((.pair (.int .i64) (.pair (.slice (.int .i64)) (.pair (.slice (.int .i64)) .unit)))) 0 false [(t1, d1, x1, ()), (t2, d2, x2, ())]), (1, .arr 37 ((.pair .str (.pair (.int .i64) (.pair (.int .i64) (.pair (.int .i64) (.pair .str (.pair (.pair (.int .i64) (.pair (.slice (.int .i64)) (.pair (.slice (.int .i64)) .unit))) (.pair (.slice (.int .i64)) .unit)))))))) 0 false [a]), (2, .arr 9 .str 0 false ins)] =>
    (match nodeP n with
    | some (op, nm, out, .os 2 0, .os 1 0) => gate (decide (op = strCC) && decide (nm = []) && decide (out = [122]) && decide (ins = [[120], [121]]) && isI a strAxis) (mcL a.2.2.2.1 t1 t2 d1 x1 d2 x2)
    | _ => .no)
  | _, _ => .no
theorem msT_ok : FnE.OK e0.P e0.gam 27 (treeE msT) := by
  have h1 : FnE.OK e0.P e0.gam 27 (execFnC gMs Tryz.f27 7 []) := execFnC_ok gMs_good hmix Tryz.func27 Tryz.call27 (by decide +kernel) rfl
  have h0 : FnE.OK e0.P e0.gam 27 (execFnC gMcD Tryz.f27 7 []) := execFnC_ok gMcD_good hmix Tryz.func27 Tryz.call27 (by decide +kernel) rfl
  refine ⟨fun _ _ _ => Tq.eq _ _, fun args hs ae hs' h => ?_⟩
  have h' : (msT args hs).run ah = some (ae, hs') := h
  clear h
  unfold msT at h'
  split at h'
  · rename_i n t d x a b c ins
    split at h'
    · rename_i hn
      rw [nodeP_some hn]
      obtain ⟨hb, h2⟩ := gate_run h'
      clear h'
      simp only [Bool.and_eq_true, decide_eq_true_eq] at hb
      obtain ⟨⟨⟨⟨⟨⟨b1, b2⟩, b3⟩, b4⟩, b5⟩, b6⟩, b7⟩ := hb
      subst b1 b2 b3 b4
      obtain ⟨la, rfl⟩ := isL_eq b5
      obtain ⟨lb, rfl⟩ := isL_eq b6
      obtain ⟨lc, rfl⟩ := isL_eq b7
      obtain ⟨s, e, k, rfl, rfl, rfl, h3⟩ := sv3_run (a := la) (b := lb) (c := lc) h2
      clear h2
      obtain ⟨hg, h4⟩ := Tq.br_no h3
      obtain ⟨c1, c2⟩ := of_decide_eq_true hg
      refine h1.okC ((mds_eq t s e k d x).trans (Eq.trans ?_ h4))
      rw [decide_eq_true (show x.length ≤ 9223372036854775807 ∧ d.length ≤ 9223372036854775807 from ⟨c1, c2⟩), cond_true]
      show _ = (bif tenE t d x != 0 then _ else (bif slB d s e k then _ else _))
      cases ht : tenE t d x != 0 with
      | true => rfl
      | false =>
        cases hb : slB d s e k with
        | false => rfl
        | true =>
          rw [decide_eq_true (show tenE t d x = 0 ∧ d.set (axN k d) (slN d s e k) = d.set (axN k d) (slN d s e k) from ⟨by simpa using ht, rfl⟩)]
          rfl
    · cases h'
  · rename_i n t1 d1 x1 t2 d2 x2 a ins
    split at h'
    · rename_i hn
      rw [nodeP_some hn]
      obtain ⟨hb, h2⟩ := gate_run h'
      clear h'
      simp only [Bool.and_eq_true, decide_eq_true_eq] at hb
      obtain ⟨⟨⟨⟨b1, b2⟩, b3⟩, b4⟩, b5⟩ := hb
      subst b1 b2 b3 b4
      obtain ⟨v, rfl⟩ := isI_eq b5
      change (mcL v t1 t2 d1 x1 d2 x2).run ah = _ at h2
      obtain ⟨hc, h3⟩ := Tq.br_no h2
      refine h0.okC ((mdc_eq v t1 t2 d1 x1 d2 x2).trans (Eq.trans ?_ h3))
      rw [hc, decide_eq_true (show ccD v d1 d2 = ccD v d1 d2 from rfl)]
      rfl
    · cases h'
  · cases h'
noncomputable def gMj : Env := ((g231.add 27 (treeE msT)).add 18 (treeElse smxtF y18)).add 25 (fnE livtF)
theorem gMj_good : gMj.Good := ((g231_good.add msT_ok).add (treeElse_ok smxtE_ok y18_ok)).add livtE_ok
theorem mjo_eq (t k a : Int) (d x : List Int) : runC gMj Tryz.f11 7 [] [.d (Y0) (t, d, x, ()), I k, I a] [] ah =
  bif decide (Int.ofNat x.length > 2000) then some (AEnd.ret [B true], [])
  else 
    bif decide (x.length ≤ 9223372036854775807 ∧ d.length ≤ 9223372036854775807) then 
      bif tenE t d x != 0 then 
        bif decide (x.length ≤ 9223372036854775807 ∧ d.length ≤ 9223372036854775807) then 
          bif tenE t d x != 0 then some (AEnd.ret [B true], [])
          else 
            bif slB d a 65536 k then some (AEnd.ret [B true], [])
            else some (AEnd.ret [B true], [])
        else none
      else 
        bif slB d 0 a k then 
          bif decide (x.length ≤ 9223372036854775807 ∧ d.length ≤ 9223372036854775807) then 
            bif tenE t d x != 0 then some (AEnd.ret [B true], [])
            else 
              bif slB d a 65536 k then 
                bif cdB k t (d.set (axN k d) (slN d 0 a k)) (svL d x 0 a k) t (d.set (axN k d) (slN d a 65536 k)) (svL d x a 65536 k) then 
                  bif decide ((ccD k (d.set (axN k d) (slN d 0 a k)) (d.set (axN k d) (slN d a 65536 k))).length ≤ 9223372036854775807 ∧ (ccX k (d.set (axN k d) (slN d 0 a k)) (svL d x 0 a k) (d.set (axN k d) (slN d a 65536 k)) (svL d x a 65536 k)).length ≤ 9223372036854775807 ∧ t = t ∧ ccD k (d.set (axN k d) (slN d 0 a k)) (d.set (axN k d) (slN d a 65536 k)) = d ∧ ccX k (d.set (axN k d) (slN d 0 a k)) (svL d x 0 a k) (d.set (axN k d) (slN d a 65536 k)) (svL d x a 65536 k) = x) then some (AEnd.ret [B true], [])
                  else none
                else none
              else some (AEnd.ret [B true], [])
          else none
        else 
          bif decide (x.length ≤ 9223372036854775807 ∧ d.length ≤ 9223372036854775807) then 
            bif tenE t d x != 0 then some (AEnd.ret [B true], [])
            else 
              bif slB d a 65536 k then some (AEnd.ret [B true], [])
              else some (AEnd.ret [B true], [])
          else none
    else none := by kernel_rfl
end Go.Proofs.XGT
namespace Go.Proofs.XGT
open Go.Vm Go
set_option maxRecDepth 100000
set_option maxHeartbeats 1000000
theorem Mid.uniq {d : List Int} {A : Nat} {D1 D2 E1 E2 : List Nat} {m n : Nat} (h : Mid d A D1 D2 m) (g : Mid d A E1 E2 n) : E1 = D1 ∧ E2 = D2 ∧ n = m := by
  have e := ints_inj (h.eq.symm.trans g.eq)
  obtain ⟨e4, e5⟩ := List.append_inj e (by rw [h.len, g.len])
  injection e5 with e5 e6
  exact ⟨e4.symm, e6.symm, e5.symm⟩
theorem bnd_zero {m : Int} (h : 0 ≤ m) : bndI 0 m = 0 := by
  unfold bndI
  rw [decide_eq_false (by decide), cond_false]
  by_cases h1 : m < 0
  · omega
  · rw [if_neg h1, if_neg (by decide)]
theorem bnd_far {m : Int} (h : 0 ≤ m) (h2 : m ≤ 65536) : bndI 65536 m = m := by
  unfold bndI
  rw [decide_eq_false (by decide), cond_false]
  by_cases h1 : m < 65536
  · rw [if_pos h1]
    by_cases h3 : m > 0
    · rw [if_pos h3]
    · rw [if_neg h3]; omega
  · rw [if_neg h1, if_pos (by decide)]
    omega
theorem cut_ten {t : Int} {d x : List Int} {s e k : Int} {D1 D2 : List Nat} {m f n : Nat} (ht : tenE t d x = 0) (h : Cut d x s e k D1 D2 m f n) : tenE t (d.set (axN k d) (slN d s e k)) (svL d x s e k) = 0 ∧ (svL d x s e k).length ≤ 65536 := by
  obtain ⟨n1, n2, n3, n4⟩ := ten_ok ht
  obtain ⟨_, _, _, c4⟩ := count_ok n2
  have hcut := h.mid.cut (n := n) h.hone (by have := h.hfn; omega)
  obtain ⟨_, _, _, c5⟩ := count_ok hcut.count
  have hx : x.length = prodN D1 * (m * prodN D2) := by
    rw [c4, h.mid.eq, prodI_ints, prodN_mid] at n3
    omega
  have hlen : (svL d x s e k).length = prodN D1 * (n * prodN D2) := by rw [h.eqL, cutN_len]
  have hpr := hcut.prod
  rw [prodN_mid] at hpr
  refine ⟨?_, by omega⟩
  rw [h.hN]
  refine tenE_mk n1 hcut.count (by rw [c5, hcut.eq, prodI_ints, prodN_mid, hlen]) fun v hv => ?_
  rw [h.eqL] at hv
  obtain ⟨q, hq, rfl⟩ := List.mem_iff_getElem.1 hv
  have hq2 := hq
  rw [cutN_len] at hq2
  have hnP : 0 < n * prodN D2 := by
    rcases Nat.eq_zero_or_pos (n * prodN D2) with h0 | h0
    · rw [h0, Nat.mul_zero] at hq2; omega
    · exact h0
  have hi : q / (n * prodN D2) < prodN D1 := Nat.div_lt_of_lt_mul (by rw [Nat.mul_comm]; exact hq2)
  have hr : q % (n * prodN D2) < n * prodN D2 := Nat.mod_lt _ hnP
  have hdm : q / (n * prodN D2) * (n * prodN D2) + q % (n * prodN D2) = q := by rw [Nat.mul_comm]; exact Nat.div_add_mod _ _
  have e1 : (cutN (prodN D1) (prodN D2) m f n x)[q] = (cutN (prodN D1) (prodN D2) m f n x).getD q 0 := by rw [List.getD_eq_getElem?_getD, List.getElem?_eq_getElem hq]; rfl
  have e2 := cutN_at (m := m) (f := f) (x := x) hi hr
  rw [hdm] at e2
  have e3 : (f + n) * prodN D2 ≤ m * prodN D2 := Nat.mul_le_mul_right _ h.hfn
  have e4 : (q / (n * prodN D2) + 1) * (m * prodN D2) ≤ prodN D1 * (m * prodN D2) := Nat.mul_le_mul_right _ hi
  rw [Nat.add_mul, Nat.one_mul] at e4
  rw [Nat.add_mul] at e3
  have hlt : f * prodN D2 + (q / (n * prodN D2) * (m * prodN D2) + q % (n * prodN D2)) < x.length := by omega
  rw [e1, e2, List.getD_eq_getElem?_getD, List.getElem?_eq_getElem hlt]
  exact n4 _ (List.getElem_mem _)
structure Joined (t k a : Int) (d x : List Int) : Prop where
  ok : cdB k t (d.set (axN k d) (slN d 0 a k)) (svL d x 0 a k) t (d.set (axN k d) (slN d a 65536 k)) (svL d x a 65536 k) = true
  dims : ccD k (d.set (axN k d) (slN d 0 a k)) (d.set (axN k d) (slN d a 65536 k)) = d
  data : ccX k (d.set (axN k d) (slN d 0 a k)) (svL d x 0 a k) (d.set (axN k d) (slN d a 65536 k)) (svL d x a 65536 k) = x
theorem joined_all {t k a : Int} {d x : List Int} (ht : tenE t d x = 0) (h1 : slB d 0 a k = true) (h2 : slB d a 65536 k = true) : Joined t k a d x := by
  obtain ⟨n1', n2', n3', _⟩ := ten_ok ht
  obtain ⟨_, h6, _, c4⟩ := count_ok n2'
  obtain ⟨D1, D2, m, f1, n1, g1⟩ := cut_of (x := x) n2' h1
  obtain ⟨E1, E2, m', f2, n2, g2⟩ := cut_of (x := x) n2' h2
  obtain ⟨rfl, rfl, rfl⟩ := g1.mid.uniq g2.mid
  have hm1 := g1.mid.m1
  have hmle := g1.mid.mle
  have hF1 := g1.hF
  have hE1 := g1.hE
  have hF2 := g2.hF
  have hE2 := g2.hE
  rw [bnd_zero (by omega)] at hF1
  rw [bnd_far (by omega) (by omega)] at hE2
  obtain rfl : f1 = 0 := by omega
  obtain rfl : f2 = n1 := by omega
  have hsum : f2 + n2 = m' := by omega
  have hc1 := g1.mid.cut (n := f2) g1.hone (by omega)
  have hc2 := g2.mid.cut (n := n2) g2.hone (by omega)
  have hb := h1
  unfold slB at hb
  rw [Bool.and_eq_true] at hb
  obtain ⟨a0, a1⟩ := ax_ok h6 hb.1
  have hAx : axN k d = E1.length := g1.mid.len.symm
  have hl1 : (d.set (axN k d) (slN d 0 a k)).length = d.length := by rw [List.length_set]
  have haN : axN k (d.set (axN k d) (slN d 0 a k)) = axN k d := by unfold axN; rw [List.length_set]
  have hTwo : Two k (d.set (axN k d) (slN d 0 a k)) (d.set (axN k d) (slN d a 65536 k)) E1 E2 f2 n2 := by
    refine ⟨?_, ?_, ?_⟩
    · rw [hl1]
      unfold axN at hAx
      omega
    · rw [g1.hN, ← hAx]; exact hc1
    · rw [g2.hN, ← hAx]; exact hc2
  have hd : d = ints (E1 ++ m' :: E2) := g1.mid.eq
  have hdims : ccD k (d.set (axN k d) (slN d 0 a k)) (d.set (axN k d) (slN d a 65536 k)) = d := by rw [hTwo.dims, hsum, ← hd]
  have hx : x.length = prodN E1 * (m' * prodN E2) := by
    rw [c4, hd, prodI_ints, prodN_mid] at n3'
    omega
  refine ⟨?_, hdims, ?_⟩
  · unfold cdB
    rw [Bool.and_eq_true]
    refine ⟨decide_eq_true ⟨(cut_ten ht g1).1, (cut_ten ht g2).1, rfl, by rw [hdims]; exact n2'⟩, ?_⟩
    unfold ccB
    rw [Bool.and_eq_true]
    refine ⟨decide_eq_true ⟨hTwo.m1.count, hTwo.m2.count, ?_⟩, by rw [hl1]; exact hb.1⟩
    rw [haN, List.set_set, List.set_set]
  · have e1 := hTwo.m1.eq
    have e2 := hTwo.m2.eq
    unfold ccX
    rw [haN, hAx, ← hAx, e1, e2, hAx, ints_toNat, ints_toNat, List.take_append_of_le_length (Nat.le_refl _), List.take_length, List.drop_append_of_le_length (Nat.le_refl _), List.drop_length, List.nil_append, List.drop_append_of_le_length (Nat.le_refl _), List.drop_length, List.nil_append, g1.eqL, g2.eqL]
    exact joined hsum hx
theorem mjo_true (t k a : Int) (d x : List Int) (hd : d.length ≤ maxLen) (hx : x.length ≤ maxLen) : runC gMj Tryz.f11 7 [] [.d (Y0) (t, d, x, ()), I k, I a] [] ah = some (.ret [B true], []) := by
  rw [mjo_eq, decide_eq_true (show x.length ≤ 9223372036854775807 ∧ d.length ≤ 9223372036854775807 from ⟨hx, hd⟩)]
  cases decide (Int.ofNat x.length > 2000) with
  | true => rfl
  | false =>
    cases ht : tenE t d x != 0 with
    | true => rfl
    | false =>
      have ht0 : tenE t d x = 0 := by simpa using ht
      cases h1 : slB d 0 a k with
      | false => cases slB d a 65536 k <;> rfl
      | true =>
        cases h2 : slB d a 65536 k with
        | false => rfl
        | true =>
          have hj := joined_all ht0 h1 h2
          rw [hj.ok, hj.dims, hj.data, decide_eq_true (show d.length ≤ 9223372036854775807 ∧ x.length ≤ 9223372036854775807 ∧ t = t ∧ d = d ∧ x = x from ⟨hd, hx, rfl, rfl, rfl⟩)]
          rfl
theorem mjo_call (t : Int) (d x : List Int) (hd : d.length ≤ maxLen) (hx : x.length ≤ maxLen) (k a : Int) : FnH Tryz.prog (Env.gam e0) 11 [.d (Y0) (t, d, x, ()), I k, I a] (hget []) (fun ae h1 => ae = .ret [B true] ∧ h1 = hget []) :=
  runC_call gMj_good hmix Tryz.func11 Tryz.call11 (by decide +kernel) rfl (mjo_true t k a d x hd hx)
end Go.Proofs.XGT
