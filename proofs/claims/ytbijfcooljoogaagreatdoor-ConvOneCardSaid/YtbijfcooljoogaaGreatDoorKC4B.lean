/- conv.pool of a MaxPool whose kernel is 1 and 1: the list itself comes out. -/
import Derived.Test.YtbijfcooljoogaaGreatDoorKC4
namespace Go.Proofs.XGT
open Go.Vm Go
set_option maxRecDepth 100000
set_option maxHeartbeats 400000
theorem w0 {a : Nat} (ha : a ≤ 65536) : IntKind.i64.wrap (IntKind.i64.wrap (IntKind.i64.wrap ((a : Int) * 1) - 0) + 0) = a := by
  have h : IntKind.i64.wrap (a : Int) = a := wrap64 (by omega) (by omega)
  rw [Int.mul_one, h, Int.sub_zero, h, Int.add_zero, h]
theorem idx_nat {α : Type} {xs : List α} {i : Nat} {x : α} (h : xs[i]? = some x) : idx xs (i : Int) = some x := by
  unfold idx
  rw [if_pos (by omega), Int.toNat_natCast, h]
theorem app_some {α : Type} {xs ys : List α} (h : xs.length + ys.length ≤ lim) : app xs ys = some (xs ++ ys) := by
  unfold app
  rw [if_pos h]
theorem lt64 {a b : Nat} (ha : a < 65536 + 1) (hb : b < 65536 + 1) : a * b ≤ 65536 * 65536 := Nat.mul_le_mul (by omega) (by omega)
theorem in_one {t : Int} {xd dt ds pic : List Int} {h w pl pe i : Int} {a b H W : Nat} (hh : h = (H : Int)) (hw : w = (W : Int)) (ha : a < H) (hb : b < W) (hH : H ≤ 65536) (hW : W ≤ 65536) {x : Int} (hx : pic[a * W + b]? = some x) (out : List Int) (hl : out.length ≤ 65536) (n : Nat) {R : Type} (k : AEx → LSt → Option R) :
    lp g166 cf_pool (cL (cL (cR (cR (cL (cL (cR (cR (cL (cL (cR (cR (cR (cL (cL (cR (cR (cL (cL (cR (cL (cR (cR C_pool))))))))))))))))))))))) (n + 1) (st2 t xd dt h w pl pe ds pic i a b h w out) k = lp g166 cf_pool (cL (cL (cR (cR (cL (cL (cR (cR (cL (cL (cR (cR (cR (cL (cL (cR (cR (cL (cL (cR (cL (cR (cR C_pool))))))))))))))))))))))) n (st2 t xd dt h w pl pe ds pic i a ((b + 1 : Nat) : Int) h w (out ++ [x])) k := by
  subst hh hw
  have hm := lt64 (a := a) (b := W) (by omega) (by omega)
  have e0 : IntKind.i64.wrap ((b : Int) + 1) = ((b + 1 : Nat) : Int) := by rw [wrap64 (by omega) (by omega)]; omega
  have e1 := w0 (a := a) (by omega)
  have e2 := w0 (a := b) (by omega)
  have e3 : IntKind.i64.wrap (IntKind.i64.wrap ((a : Int) * W) + b) = ((a * W + b : Nat) : Int) := by
    have g1 : IntKind.i64.wrap ((a * W : Nat) : Int) = ((a * W : Nat) : Int) := wrap64 (by omega) (by omega)
    have g2 : IntKind.i64.wrap (((a * W : Nat) : Int) + b) = ((a * W : Nat) : Int) + b := wrap64 (by omega) (by omega)
    rw [← Int.natCast_mul, g1, g2]; omega
  cases out with
  | nil =>
    rw [in_step0, decide_eq_true (show (b : Int) < W by omega)]
    simp only [cond_true, e0, e1, e2, e3]
    rw [decide_eq_false (show ¬ ((a : Int) < 0) by omega), decide_eq_false (show ¬ ((a : Int) ≥ H) by omega), decide_eq_false (show ¬ ((b : Int) < 0) by omega), decide_eq_false (show ¬ ((b : Int) ≥ W) by omega), idx_nat hx]
    rfl
  | cons o out =>
    rw [in_step, decide_eq_true (show (b : Int) < W by omega)]
    simp only [cond_true, e0, e1, e2, e3]
    rw [decide_eq_false (show ¬ ((a : Int) < 0) by omega), decide_eq_false (show ¬ ((a : Int) ≥ H) by omega), decide_eq_false (show ¬ ((b : Int) < 0) by omega), decide_eq_false (show ¬ ((b : Int) ≥ W) by omega), idx_nat hx]
    simp only [cond_false, Option.bind_some]
    rw [app_some (by simp only [List.length_cons, List.length_nil] at *; unfold lim; omega)]
    rfl
theorem in_end {t : Int} {xd dt ds pic : List Int} {h w pl pe i a b : Int} (out : List Int) (hb : ¬ b < w) (n : Nat) {R : Type} (k : AEx → LSt → Option R) :
    lp g166 cf_pool (cL (cL (cR (cR (cL (cL (cR (cR (cL (cL (cR (cR (cR (cL (cL (cR (cR (cL (cL (cR (cL (cR (cR C_pool))))))))))))))))))))))) (n + 1) (st2 t xd dt h w pl pe ds pic i a b h w out) k = k (.exit 4) (st2e t xd dt h w pl pe ds pic i a b h w out) := by
  cases out with
  | nil => rw [in_step0, decide_eq_false hb]; rfl
  | cons o out => rw [in_step, decide_eq_false hb]; rfl
theorem in_all {t : Int} {xd dt ds pic : List Int} {h w pl pe i : Int} {a H W : Nat} (hh : h = (H : Int)) (hw : w = (W : Int)) (ha : a < H) (hH : H ≤ 65536) (hW : W ≤ 65536) (hpic : (a + 1) * W ≤ pic.length) {R : Type} (k : AEx → LSt → Option R) :
    ∀ (r b m : Nat) (out : List Int), b + r = W → r < m → out.length + r ≤ 65536 →
    lp g166 cf_pool (cL (cL (cR (cR (cL (cL (cR (cR (cL (cL (cR (cR (cR (cL (cL (cR (cR (cL (cL (cR (cL (cR (cR C_pool))))))))))))))))))))))) m (st2 t xd dt h w pl pe ds pic i a b h w out) k = k (.exit 4) (st2e t xd dt h w pl pe ds pic i a w h w (out ++ (pic.drop (a * W + b)).take r)) := by
  intro r
  induction r with
  | zero =>
    intro b m out hb hm hl
    obtain ⟨m, rfl⟩ : ∃ m', m = m' + 1 := ⟨m - 1, by omega⟩
    obtain rfl : b = W := by omega
    subst hw
    rw [in_end out (by omega), List.take_zero, List.append_nil]
  | succ r ih =>
    intro b m out hb hm hl
    obtain ⟨m, rfl⟩ : ∃ m', m = m' + 1 := ⟨m - 1, by omega⟩
    rw [Nat.add_mul] at hpic
    have hlt : a * W + b < pic.length := by omega
    have hx : pic[a * W + b]? = some pic[a * W + b] := List.getElem?_eq_getElem hlt
    rw [in_one hh hw ha (by omega) hH hW hx out (by omega), ih (b + 1) m _ (by omega) (by omega) (by simp; omega)]
    have e : List.drop (a * W + b) pic = pic[a * W + b] :: List.drop (a * W + (b + 1)) pic := by rw [← Nat.add_assoc]; exact List.drop_eq_getElem_cons hlt
    rw [e, List.take_succ_cons, List.append_assoc]
    rfl
theorem mid_one {t : Int} {xd dt ds pic : List Int} {h w pl pe i : Int} {a H W : Nat} (hh : h = (H : Int)) (hw : w = (W : Int)) (ha : a < H) (hH : H ≤ 65536) (hW : W ≤ 65536) (hW1 : 1 ≤ W) (hpic : (a + 1) * W ≤ pic.length) (hd : ds[3]? = some w) (out : List Int) (hl : out.length + W ≤ 65536) (n : Nat) {R : Type} (k : AEx → LSt → Option R) :
    lp g166 cf_pool (cL (cL (cR (cR (cR (cL (cL (cR (cR (cL (cL (cR (cL (cR (cR C_pool))))))))))))))) (n + 1) (st1 t xd dt h w pl pe ds pic i a h out) k = lp g166 cf_pool (cL (cL (cR (cR (cR (cL (cL (cR (cR (cL (cL (cR (cL (cR (cR C_pool))))))))))))))) n (st1 t xd dt h w pl pe ds pic i ((a + 1 : Nat) : Int) h (out ++ (pic.drop (a * W)).take W)) k := by
  have hne : ∃ o r, out ++ (pic.drop (a * W)).take W = o :: r := by
    have : 0 < (out ++ (pic.drop (a * W)).take W).length := by
      rw [Nat.add_mul] at hpic
      rw [List.length_append, List.length_take, List.length_drop]; omega
    match hq : out ++ (pic.drop (a * W)).take W, this with
    | o :: r, _ => exact ⟨o, r, rfl⟩
  have key : ∀ k' : AEx → LSt → Option R, lp g166 cf_pool (cL (cL (cR (cR (cL (cL (cR (cR (cL (cL (cR (cR (cR (cL (cL (cR (cR (cL (cL (cR (cL (cR (cR C_pool))))))))))))))))))))))) fu (st2 t xd dt h w pl pe ds pic i a ((0 : Nat) : Int) h w out) k' = k' (.exit 4) (st2e t xd dt h w pl pe ds pic i a w h w (out ++ (pic.drop (a * W)).take W)) := fun k' => by
    have := in_all (t := t) (xd := xd) (dt := dt) (ds := ds) (pl := pl) (pe := pe) (i := i) hh hw ha hH hW hpic k' W 0 fu out (by omega) (by unfold fu; omega) (by omega)
    rw [Nat.add_zero] at this
    exact this
  obtain ⟨o, r, hor⟩ := hne
  have hlt : (a : Int) < h := by omega
  have e0 : IntKind.i64.wrap ((a : Int) + 1) = ((a + 1 : Nat) : Int) := by rw [wrap64 (by omega) (by omega)]; omega
  rw [hor] at key ⊢
  cases out with
  | nil =>
    rw [mid_step0, decide_eq_true hlt, show idx ds 3 = ds[3]? from rfl, hd]
    refine (key _).trans ?_
    rw [← e0]
    exact pool_k2 _ _ _ _ _ _ _ _ _ _ _ _ _ _ _ _ _ _
  | cons o' out =>
    rw [mid_step, decide_eq_true hlt, show idx ds 3 = ds[3]? from rfl, hd]
    refine (key _).trans ?_
    rw [← e0]
    exact pool_k2 _ _ _ _ _ _ _ _ _ _ _ _ _ _ _ _ _ _
theorem mid_end {t : Int} {xd dt ds pic : List Int} {h w pl pe i a : Int} (out : List Int) (ha : ¬ a < h) (n : Nat) {R : Type} (k : AEx → LSt → Option R) :
    lp g166 cf_pool (cL (cL (cR (cR (cR (cL (cL (cR (cR (cL (cL (cR (cL (cR (cR C_pool))))))))))))))) (n + 1) (st1 t xd dt h w pl pe ds pic i a h out) k = k (.exit 2) (st1e t xd dt h w pl pe ds pic i a h out) := by
  cases out with
  | nil => rw [mid_step0, decide_eq_false ha]; rfl
  | cons o out => rw [mid_step, decide_eq_false ha]; rfl
theorem mid_all {t : Int} {xd dt ds pic : List Int} {h w pl pe i : Int} {H W : Nat} (hh : h = (H : Int)) (hw : w = (W : Int)) (hH : H ≤ 65536) (hW : W ≤ 65536) (hW1 : 1 ≤ W) (hpic : H * W ≤ pic.length) (hd : ds[3]? = some w) {R : Type} (k : AEx → LSt → Option R) :
    ∀ (r a m : Nat) (out : List Int), a + r = H → r < m → out.length + r * W ≤ 65536 →
    lp g166 cf_pool (cL (cL (cR (cR (cR (cL (cL (cR (cR (cL (cL (cR (cL (cR (cR C_pool))))))))))))))) m (st1 t xd dt h w pl pe ds pic i a h out) k = k (.exit 2) (st1e t xd dt h w pl pe ds pic i h h (out ++ (pic.drop (a * W)).take (r * W))) := by
  intro r
  induction r with
  | zero =>
    intro a m out hb hm hl
    obtain ⟨m, rfl⟩ : ∃ m', m = m' + 1 := ⟨m - 1, by omega⟩
    obtain rfl : a = H := by omega
    subst hh
    rw [mid_end out (by omega), Nat.zero_mul, List.take_zero, List.append_nil]
  | succ r ih =>
    intro a m out hb hm hl
    obtain ⟨m, rfl⟩ : ∃ m', m = m' + 1 := ⟨m - 1, by omega⟩
    have h1 : (a + 1) * W ≤ H * W := Nat.mul_le_mul_right _ (by omega)
    have h2 : (r + 1) * W = r * W + W := by rw [Nat.add_mul]; omega
    rw [mid_one hh hw (by omega) hH hW hW1 (by omega) hd out (by omega), ih (a + 1) m _ (by omega) (by omega) (by rw [List.length_append, List.length_take]; omega)]
    rw [List.append_assoc, h2, Nat.add_comm (r * W) W, List.take_add, List.drop_drop, Nat.add_mul a 1 W, Nat.one_mul]
theorem out_one {t : Int} {xd dt ds : List Int} {h w pl pe : Int} {i H W P : Nat} (hh : h = (H : Int)) (hw : w = (W : Int)) (hpl : pl = (P : Int)) (hpe : pe = ((H * W : Nat) : Int)) (hi : i < P) (hH : H ≤ 65536) (hW : W ≤ 65536) (hH1 : 1 ≤ H) (hW1 : 1 ≤ W) (hdt : dt.length = P * (H * W)) (hmax : P * (H * W) ≤ 65536) (hd2 : ds[2]? = some h) (hd3 : ds[3]? = some w) (out : List Int) (hl : out.length + H * W ≤ 65536) (n : Nat) {R : Type} (k : AEx → LSt → Option R) :
    lp g166 cf_pool (cL (cL (cR (cL (cR (cR C_pool)))))) (n + 1) (st0 t xd dt h w pl pe ds i out) k = lp g166 cf_pool (cL (cL (cR (cL (cR (cR C_pool)))))) n (st0 t xd dt h w pl pe ds ((i + 1 : Nat) : Int) (out ++ (dt.drop (i * (H * W))).take (H * W))) k := by
  have hHW : 1 ≤ H * W := Nat.mul_pos hH1 hW1
  have h1 : (i + 1) * (H * W) ≤ P * (H * W) := Nat.mul_le_mul_right _ (by omega)
  rw [Nat.add_mul, Nat.one_mul] at h1
  have hP : P ≤ P * (H * W) := Nat.le_mul_of_pos_right _ hHW
  have hpl2 : ((dt.drop (i * (H * W))).take (H * W)).length = H * W := by rw [List.length_take, List.length_drop]; omega
  have hne : ∃ o r, out ++ (dt.drop (i * (H * W))).take (H * W) = o :: r := by
    have : 0 < (out ++ (dt.drop (i * (H * W))).take (H * W)).length := by rw [List.length_append]; omega
    match hq : out ++ (dt.drop (i * (H * W))).take (H * W), this with
    | o :: r, _ => exact ⟨o, r, rfl⟩
  have key : ∀ k' : AEx → LSt → Option R, lp g166 cf_pool (cL (cL (cR (cR (cR (cL (cL (cR (cR (cL (cL (cR (cL (cR (cR C_pool))))))))))))))) fu (st1 t xd dt h w pl pe ds ((dt.drop (i * (H * W))).take (H * W)) i ((0 : Nat) : Int) h out) k' = k' (.exit 2) (st1e t xd dt h w pl pe ds ((dt.drop (i * (H * W))).take (H * W)) i h h (out ++ (dt.drop (i * (H * W))).take (H * W))) := fun k' => by
    have := mid_all (t := t) (xd := xd) (dt := dt) (ds := ds) (pl := pl) (pe := pe) (i := i) hh hw hH hW hW1 (by rw [hpl2]; exact Nat.le_refl _) hd3 k' H 0 fu out (by omega) (by unfold fu; omega) (by omega)
    rw [Nat.zero_mul, List.drop_zero, show List.take (H * W) (List.take (H * W) (List.drop (i * (H * W)) dt)) = List.take (H * W) (List.drop (i * (H * W)) dt) from List.take_of_length_le (by rw [hpl2]; exact Nat.le_refl _)] at this
    exact this
  obtain ⟨o, r, hor⟩ := hne
  have hlt : (i : Int) < pl := by omega
  have e0 : IntKind.i64.wrap ((i : Int) + 1) = ((i + 1 : Nat) : Int) := by rw [wrap64 (by omega) (by omega)]; omega
  have e1 : IntKind.i64.wrap ((i : Int) * pe) = ((i * (H * W) : Nat) : Int) := by rw [hpe, ← Int.natCast_mul, wrap64 (by omega) (by omega)]
  have c1 : (0 : Int) ≤ ((i * (H * W) : Nat) : Int) ∧ ((i * (H * W) : Nat) : Int) ≤ Int.ofNat dt.length ∧ Int.ofNat dt.length ≤ Int.ofNat dt.length := ⟨by omega, by rw [hdt]; simp only [Int.ofNat_eq_natCast]; omega, Int.le_refl _⟩
  have l1 : (List.drop (i * (H * W)) (List.take dt.length dt)).length = dt.length - i * (H * W) := by rw [List.take_length, List.length_drop]
  have c2 : (0 : Int) ≤ 0 ∧ 0 ≤ pe ∧ pe ≤ Int.ofNat (List.drop (i * (H * W)) (List.take dt.length dt)).length := ⟨Int.le_refl _, by omega, by rw [l1, hdt, hpe]; simp only [Int.ofNat_eq_natCast]; omega⟩
  rw [hor] at key ⊢
  have hpe2 : pe.toNat = H * W := by rw [hpe]; rfl
  cases out with
  | nil =>
    rw [out_step0, decide_eq_true hlt, e1, if_pos c1, Int.toNat_natCast]
    simp only [cond_true, Option.bind_some]
    rw [show (Int.ofNat dt.length).toNat = dt.length from rfl, if_pos c2, hpe2, List.drop_zero, List.take_length, show idx ds 2 = ds[2]? from rfl, hd2]
    refine (key _).trans ?_
    rw [← e0]
    exact pool_k1 _ _ _ _ _ _ _ _ _ _ _ _ _ _ _ _
  | cons o' out =>
    rw [out_step, decide_eq_true hlt, e1, if_pos c1, Int.toNat_natCast]
    simp only [cond_true, Option.bind_some]
    rw [show (Int.ofNat dt.length).toNat = dt.length from rfl, if_pos c2, hpe2, List.drop_zero, List.take_length, show idx ds 2 = ds[2]? from rfl, hd2]
    refine (key _).trans ?_
    rw [← e0]
    exact pool_k1 _ _ _ _ _ _ _ _ _ _ _ _ _ _ _ _
theorem out_end {t : Int} {xd dt ds : List Int} {h w pl pe i : Int} (out : List Int) (ha : ¬ i < pl) (n : Nat) {R : Type} (k : AEx → LSt → Option R) :
    lp g166 cf_pool (cL (cL (cR (cL (cR (cR C_pool)))))) (n + 1) (st0 t xd dt h w pl pe ds i out) k = k (.exit 0) (st0e t xd dt h w pl pe ds i out) := by
  cases out with
  | nil => rw [out_step0, decide_eq_false ha]; rfl
  | cons o out => rw [out_step, decide_eq_false ha]; rfl
theorem out_all {t : Int} {xd dt ds : List Int} {h w pl pe : Int} {H W P : Nat} (hh : h = (H : Int)) (hw : w = (W : Int)) (hpl : pl = (P : Int)) (hpe : pe = ((H * W : Nat) : Int)) (hH : H ≤ 65536) (hW : W ≤ 65536) (hH1 : 1 ≤ H) (hW1 : 1 ≤ W) (hdt : dt.length = P * (H * W)) (hmax : P * (H * W) ≤ 65536) (hd2 : ds[2]? = some h) (hd3 : ds[3]? = some w) {R : Type} (k : AEx → LSt → Option R) :
    ∀ (r i m : Nat) (out : List Int), i + r = P → r < m → out.length + r * (H * W) ≤ 65536 →
    lp g166 cf_pool (cL (cL (cR (cL (cR (cR C_pool)))))) m (st0 t xd dt h w pl pe ds i out) k = k (.exit 0) (st0e t xd dt h w pl pe ds pl (out ++ (dt.drop (i * (H * W))).take (r * (H * W)))) := by
  intro r
  induction r with
  | zero =>
    intro a m out hb hm hl
    obtain ⟨m, rfl⟩ : ∃ m', m = m' + 1 := ⟨m - 1, by omega⟩
    obtain rfl : a = P := by omega
    subst hpl
    rw [out_end out (by omega), Nat.zero_mul, List.take_zero, List.append_nil]
  | succ r ih =>
    intro i m out hb hm hl
    obtain ⟨m, rfl⟩ : ∃ m', m = m' + 1 := ⟨m - 1, by omega⟩
    have h2 : (r + 1) * (H * W) = r * (H * W) + H * W := by rw [Nat.add_mul]; omega
    rw [out_one hh hw hpl hpe (by omega) hH hW hH1 hW1 hdt hmax hd2 hd3 out (by omega), ih (i + 1) m _ (by omega) (by omega) (by rw [List.length_append, List.length_take]; omega)]
    rw [List.append_assoc, h2, Nat.add_comm (r * (H * W)) (H * W), List.take_add, List.drop_drop, Nat.add_mul i 1 (H * W), Nat.one_mul]
/-- what comes out of the pool is what stands there -/
theorem pool_run {t : Int} {xd dt ds : List Int} {h w pl pe : Int} {H W P : Nat} (hh : h = (H : Int)) (hw : w = (W : Int)) (hpl : pl = (P : Int)) (hpe : pe = ((H * W : Nat) : Int)) (hP1 : 1 ≤ P) (hH1 : 1 ≤ H) (hW1 : 1 ≤ W) (hdt : dt.length = P * (H * W)) (hmax : P * (H * W) ≤ 65536) (hd2 : ds[2]? = some h) (hd3 : ds[3]? = some w) :
    runC g166 Tryz.f31 6 [(3, [3, 4, 5, 6, 9, 15, 16]), (7, [3, 4, 5, 6, 9, 11, 15, 16, 31, 32]), (10, [3, 4, 5, 6, 9, 11, 12, 15, 16, 31, 32, 37, 38])] [nodeA strMP [] [122] (.os 2 0) (.os 1 0), .d (Y0) (t, xd, dt, ()), winA h w 1 1 1 1 1 1 0 0 pl pe, .os 0 0] (hpP ds [kattr [1, 1]] [[120]]) ah = some (.ret [.os 3 0], hpP ds [kattr [1, 1]] [[120]] ++ [(3, .arr 2 i64T 0 false dt)]) := by
  have hHW : 1 ≤ H * W := Nat.mul_pos hH1 hW1
  have hP : H * W ≤ P * (H * W) := Nat.le_mul_of_pos_left _ hP1
  have hH : H ≤ H * W := Nat.le_mul_of_pos_right _ hW1
  have hW : W ≤ H * W := Nat.le_mul_of_pos_left _ hH1
  have hP2 : P ≤ P * (H * W) := Nat.le_mul_of_pos_right _ hHW
  rw [pool_lp]
  have := out_all (t := t) (xd := xd) hh hw hpl hpe (by omega) (by omega) hH1 hW1 hdt hmax hd2 hd3 PK0 P 0 fu [] (by omega) (by unfold fu; omega) (by simp; omega)
  rw [Nat.zero_mul, List.drop_zero, ← hdt, List.take_length, List.nil_append] at this
  rw [this]
  clear this
  match dt, hdt with
  | [], hdt => simp at hdt; omega
  | o :: out, _ => exact pool_k0 _ _ _ _ _ _ _ _ _ _ _
end Go.Proofs.XGT
