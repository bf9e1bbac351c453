/- Part U of the abstract machine: a function that defers a function which recovers. -/
import Derived.Test.YtnkhoojomojbpaaGreatDoorK22
import Derived.Recover
namespace Go.Vm
universe u
variable {R : Type}
section
variable {P : Program} {C : Ctx}
inductive Av : FrameMode -> Value -> FrameMode -> Prop
 | calm : Av .returning .nilIface .returning
 | caught (v : Value) : Av (.panicking [{ v := v, recovered := false }]) v (.panicking [{ v := v, recovered := true }])
theorem xC {Γ : Nat -> Option AV} {g : FuncId} {gn : Func} {id t5 t2 : Nat} {rest : Code} {ty1 QU : TypeId} {pos1 pos2 : String} {aft1 aft2 : Array Edge} (hgf : ∀ g v, Γ g = some v -> v.free = true) (hf : P.funcs[g]? = some gn)
  (hb : gn.body = some (.seq (.region id #[⟨some t5, .call ⟨.builtin .recover, #[], #[]⟩, ty1, pos1, aft1, none⟩, ⟨some t2, .assign (.tmp t5), QU, pos2, aft2, none⟩] false) rest))
  (hres : gn.results = #[]) (h5 : t5 < gn.ntmps) (h2 : t2 < gn.ntmps) {u u' : FrameMode} {rv : Value} (hm : Av u rv u') {av : AV} {caps : List AV} {h0 : Hp} {R : Hp -> Prop} (hlen : caps.length <= gn.ntmps)
  (hrv : ∀ (w : World) (im : Nat -> Prop) (μ : Mu) (hp : Hp), bo w im μ hp av rv)
  (h : ∀ W im μ, AW P (zQ W im μ h0 gn.ntmps Γ true) rest (fun ex s' => (ex = .normal \/ ex = .ret) /\ ∃ σ h1, cu σ s'.hp h1 /\ (∀ o ob, h0 o = some ob -> σ.get o = some (o, .keep)) /\ R h1) ⟨ly (ly (jo caps) t5 av) t2 av, h0⟩)
  {W : World} {im : Nat -> Prop} {μ : Mu} {vals : List Value} (iC : ∀ b, im b -> b < W.heap.size) (hglob : kT Γ W im) (hI : jR W im μ h0) (hargs : RepFs W im μ h0 caps vals) :
  CallsD P g vals.toArray u W (fun e u'' w' => u'' = u' /\ (∃ v, e = .returned v) /\ ∃ h1 bI bh, R h1 /\ dc W im μ h0 w' bI bh h1) := by
 refine callsD_of_wpS hf hb (fun c₀ cs hc => ?_)
 refine wpS_seq (wpS_region ?_)
 have hus : vals.length = caps.length := iV hargs
 have hinv0 := r6 (n := gn.ntmps) iC hgf hglob hI hargs hlen true
 have hinv1 := hinv0.put (w' := W) (dst := some t5) (v := rv) (av := av) rfl rfl rfl rfl (fun d hd => by cases hd; exact h5) (hrv _ _ _ _)
 have hinv2 := hinv1.put (w' := W) (dst := some t2) (v := rv) (av := av) rfl rfl rfl rfl (fun d hd => by cases hd; exact h2) (hrv _ _ _ _)
 have hrest : ∀ c₁ : Frame, c₁ = { c₀ with mode := u' } -> rest.wpS P (bodyPostS P gn c₀ cs (fun e u'' w' => u'' = u' /\ (∃ v, e = .returned v) /\ ∃ h1 bI bh, R h1 /\ dc W im μ h0 w' bI bh h1))
   ((({ tmps := vals.toArray ++ Array.replicate (gn.ntmps - vals.toArray.size) Go.undef, defers := [] } : Act).put (some t5) rv).put (some t2) rv) (c₁ :: cs) W := by
  rintro c₁ rfl
  refine wpS_of_wp (wp_mono (wpIn_wide.1 (h W im μ _ _ ⟨im, μ, hinv2⟩)) ?_)
  rintro e a' w' ⟨ae, s', rfl, ⟨hex, σ, h1, hH, hpin, hR⟩, bI, bh, hrel⟩
  obtain ⟨kf, _⟩ := hrel.hpStepV hH hpin
  have hdef : a'.defers = [] := by
   obtain ⟨ms, hd, hm⟩ := hrel.defers
   rw [hd, hm.none rfl]; rfl
  rcases hex with rfl | rfl
  ·exact ⟨hdef, u', rfl, .tuple #[], by simp [results, hres], rfl, ⟨_, rfl⟩, h1, bI, _, hR, kf⟩
  ·exact ⟨hdef, u', rfl, .tuple #[], by simp [results, hres], rfl, ⟨_, rfl⟩, h1, bI, _, hR, kf⟩
 have e0 : ∀ (ρ : Operand -> Value), (execOp ρ ⟨some t5, .call ⟨.builtin .recover, #[], #[]⟩, ty1, pos1, aft1, none⟩).run P W = .ok .recover W := fun ρ => by
  rfl
 have e1 : ∀ (A : Act), (execOp (A.put (some t5) rv).eval ⟨some t2, .assign (.tmp t5), QU, pos2, aft2, none⟩).run P W = .ok (.value ((A.put (some t5) rv).eval (.tmp t5))) W := fun A => by
  simp [execOp]
 have e2 : ((({ tmps := vals.toArray ++ Array.replicate (gn.ntmps - vals.toArray.size) Go.undef, defers := [] } : Act).put (some t5) rv).eval (.tmp t5)) = rv := by
  have fP : t5 < vals.length + (gn.ntmps - vals.length) := by omega
  simp [Act.put, Act.eval, Array.getD_eq_getD_getElem?, fP]
 show wpOpsS P _ _ [0, 1] _ _ _
 cases hm with
 | calm =>
  have hr : recoverD (c₀ :: cs) = none := by simp [recoverD, hc]
  simp only [wpOpsS, List.getElem?_toArray, List.getElem?_cons_zero, List.getElem?_cons_succ, Region.wanted, if_true, e0, hr, e1, e2, Oper.upon_value]
  exact hrest c₀ (by rw [← hc])
 | caught v =>
  have hr : recoverD (c₀ :: cs) = some (rv, { c₀ with mode := .panicking [{ v := rv, recovered := true }] } :: cs) := by simp [recoverD, hc]
  simp only [wpOpsS, List.getElem?_toArray, List.getElem?_cons_zero, List.getElem?_cons_succ, Region.wanted, if_true, e0, hr, e1, e2, Oper.upon_value]
  exact hrest _ rfl
end
def lu (hp : LHp) : AV -> Bool
 | .op o [] off => Nat.beq off 0 && (match aA hp o with | some (.box _) => true | _ => false)
 | _ => false
theorem qu {hp : LHp} {w : World} {im : Nat -> Prop} {μ : Mu} : ∀ {l : List AV} {us : List Value}, (l.all (lu hp)) = true -> RepFs w im μ (aA hp) l us ->
  ∀ {w' : World} {bI : Nat -> Prop} {bh : Mu} {bp : Hp}, (∀ o ob, aA hp o = some ob -> ∃ ct, bp o = some ct /\ cA ob (μ o) ct (bh o)) -> RepFs w' bI bh bp l us
 | [], us, _, h, _, _, _, _, _ => by simpa [RepFs] using h
 | a :: l, us, hb, h, w', bI, bh, bp, hk => by
  simp only [List.all_cons, ba] at hb
  obtain ⟨h1, h2⟩ := hb
  simp only [RepFs] at h ⊢
  obtain ⟨v, vs, rfl, g1, g2, g3⟩ := h
  refine ⟨v, vs, rfl, ?_, g2, qu h2 g3 hk⟩
  unfold lu at h1
  split at h1
  ·rename_i o off
   simp only [ba] at h1
   obtain ⟨_, h1⟩ := h1
   split at h1
   ·rename_i v0 hv
    simp only [RepA] at g1 ⊢
    obtain ⟨b, x, k1, k2, k3⟩ := g1
    obtain ⟨ct, m1, m2⟩ := hk o _ hv
    cases ct with
    | arr _ _ _ _ _ => exact m2.elim
    | rc _ => exact m2.elim
    | box y =>
     have m3 : bh o = μ o := m2
     grind
   ·cases h1
  ·cases h1
def Qu : AEx -> Option AV
 | .normal | .ret => some .nilif
 | .panic t n => some (.iface t (.d (.int .i64) n))
 | .exit _ => none
structure lU where
 g : Nat
 gn : Func
 depth : Nat
 live : List (Nat × List Nat)
 t5 : Nat
 t2 : Nat
 t15 : Nat
 caps : List Operand
def H6 (E : Env) (D : lU) (rest : Code) (args : List AV) (av : AV) (hs : LHp) : Option LHp :=
 bif Nat.ble args.length D.gn.ntmps && cj hs.length hs then
  ex E ⟨D.gn.ntmps, D.depth, hs.length, D.live, false⟩ rest ⟨((aw D.depth (number 0 args)).set D.t5 av).set D.t2 av, hs, hs.length⟩ fun e s =>
   match e with
   | .normal => fin hs.length s.hp [] (fun _ h1 => some h1)
   | .ret => fin hs.length s.hp [] (fun _ h1 => some h1)
   | _ => none
 else none
def Qv (E : Env) (D : lU) (rest : Code) (base : Nat) (rv : List ResultVar) (caps : List AV) (e : AEx) (s : LSt) : Option (aq × LHp) :=
 match Qu e with
 | none => none
 | some av =>
  let L := fb s.hp cF (refsL caps) []
  let σ := ju s.hp L 0
  bif σ.good then
   (match rens σ caps with
   | some args =>
    (match jO s.hp σ σ with
    | some hs =>
     (match H6 E D rest args av hs with
     | some aH =>
      let nw := dk L.length s.nx aH
      let cI := dF s.hp L 0 ++ nw
      bif cI.good && dY s.hp nw then
       (match jO aH cI cI with
       | some wr =>
        (match nK E.P ⟨s.fr, wr ++ s.hp, s.nx⟩ rv with
        | some rs => fin base (wr ++ s.hp) rs (fun fQ h1 => some (.ret fQ, h1))
        | none => none)
       | none => none)
      else none
     | none => none)
    | none => none)
   | none => none)
  else none
def vN (E : Env) (fn : Func) (depth : Nat) (live : List (Nat × List Nat)) (D : lU) (args : List AV) (hs : LHp) : Option (aq × LHp) :=
 match fn.body, D.gn.body with
 | some (.seq R0 (.seq _ y)), some (.seq _ rest) =>
  bif Nat.ble args.length fn.ntmps && cj hs.length hs then
   ex E ⟨fn.ntmps, depth, hs.length, live, false⟩ R0 ⟨aw depth (number 0 args), hs, hs.length⟩ fun e0 s0 =>
    match e0 with
    | .normal =>
     let caps := evs E s0 D.caps
     bif caps.all (lu s0.hp) && cj s0.nx s0.hp then
      ex E ⟨fn.ntmps, depth, s0.nx, live, false⟩ y (s0.set D.t15 (.fn (.func D.g) [] caps)) (Qv E D rest hs.length fn.results.toList caps)
     else none
    | _ => none
  else none
 | _, _ => none
def rj (E : Env) (fn : Func) (depth : Nat) (live : List (Nat × List Nat)) (D : lU) : FnE :=
 { run := fun args hs k => (vN E fn depth live D args hs).bind fun p => k p.1 p.2 }
theorem Qw {E : Env} (hE : E.Good) (bO : E.P.follows .mixedOrders = true) {D : lU} {id : Nat} {rest : Code} {ty1 QU : TypeId} {pos1 pos2 : String} {aft1 aft2 : Array Edge} (hf : E.P.funcs[D.g]? = some D.gn)
  (hb : D.gn.body = some (.seq (.region id #[⟨some D.t5, .call ⟨.builtin .recover, #[], #[]⟩, ty1, pos1, aft1, none⟩, ⟨some D.t2, .assign (.tmp D.t5), QU, pos2, aft2, none⟩] false) rest))
  (hres : D.gn.results = #[]) (h5 : D.t5 < D.gn.ntmps) (h2 : D.t2 < D.gn.ntmps) (hcode : b7 D.gn.ntmps rest = true) (hdep : Nat.blt D.gn.ntmps (2 ^ D.depth) = true) {args : List AV} {av : AV} {hs aH : LHp} (h : H6 E D rest args av hs = some aH)
  {u u' : FrameMode} {rv : Value} (hm : Av u rv u') (hrv : ∀ (w : World) (im : Nat -> Prop) (μ : Mu) (hp : Hp), bo w im μ hp av rv)
  {W : World} {im : Nat -> Prop} {μ : Mu} {vals : List Value} (iC : ∀ b, im b -> b < W.heap.size) (hglob : kT E.gam W im) (hI : jR W im μ (aA hs)) (hargs : RepFs W im μ (aA hs) args vals) :
  CallsD E.P D.g vals.toArray u W (fun e u'' w' => u'' = u' /\ (∃ v, e = .returned v) /\ ∃ h1 bI bh, h1 = aA aH /\ dc W im μ (aA hs) w' bI bh h1) := by
 unfold H6 at h
 cases hc : Nat.ble args.length D.gn.ntmps && cj hs.length hs with
 | false => rw [hc] at h; cases h
 | true =>
  rw [hc] at h
  simp only [ba] at hc
  simp only [ai] at h
  have hdep' : D.gn.ntmps < 2 ^ D.depth := Nat.le_of_ble_eq_true hdep
  refine xC (R := fun h1 => h1 = aA aH) hE.gf hf hb hres h5 h2 hm (Nat.le_of_ble_eq_true hc.1) hrv (fun W im μ => ?_) iC hglob hI hargs
  have hCK : CK E ⟨D.gn.ntmps, D.depth, hs.length, D.live, false⟩ (zQ W im μ (aA hs) D.gn.ntmps E.gam true) := ⟨rfl, rfl, hdep', fun o ob ho => cb hc.2 o ob ho, (fun h => by cases h)⟩
  have f0 := ku ⟨D.gn.ntmps, D.depth, hs.length, D.live, false⟩ hdep' (number 0 args) hs hs.length
  have f1 := fT f0 D.t5 av
  have f2 := fT f1 D.t2 av
  have hex := vM hE bO hCK rest ⟨((aw D.depth (number 0 args)).set D.t5 av).set D.t2 av, hs, hs.length⟩ _ _ hcode f2 h
  refine iZ (s' := (⟨((aw D.depth (number 0 args)).set D.t5 av).set D.t2 av, hs, hs.length⟩ : LSt).toA) (sO rfl fun x => ?_) (xz hex ?_)
  ·show (((aw D.depth (number 0 args)).set D.t5 av).set D.t2 av).get x = .undef \/ (((aw D.depth (number 0 args)).set D.t5 av).set D.t2 av).get x = ly (ly (jo args) D.t5 av) D.t2 av x
   rw [Tr.get_set _ _ _ _ (show ((aw D.depth (number 0 args)).set D.t5 av).has D.t2 = true from f1 D.t2 h2)]
   simp only [ly]
   cases hx2 : Nat.beq x D.t2 with
   | true => exact .inr rfl
   | false =>
    simp only [ax]
    rw [Tr.get_set _ _ _ _ (show (aw D.depth (number 0 args)).has D.t5 = true from f0 D.t5 h5)]
    grind [Nat.beq, pQ, jq]
  ·rintro e s' ⟨st, hle, _, hk⟩
   refine ⟨st.toA, hle, ?_⟩
   have hfin : fin hs.length st.hp [] (fun _ h1 => some h1) = some aH -> ∃ σ h1, cu σ st.toA.hp h1 /\ (∀ o ob, aA hs o = some ob -> σ.get o = some (o, .keep)) /\ h1 = aA aH := fun hh => by
    obtain ⟨σ, h1, fQ, g1, g2, g3, g4⟩ := sL hh
    cases g4
    exact ⟨σ, _, g1, fun o ob ho => g3 o (cb hc.2 o ob ho), rfl⟩
   grind
theorem Inv.toH {W : World} {im bI : Nat -> Prop} {μ E0 bh : Mu} {h0 h1 : Hp} {Γ : Nat -> Option AV} {ds : List Deferred} {n : Nat} {s : ASt} {a : Act} {w : World}
  (hi : Inv ⟨W, im, fun b => ∃ o, (μ o).blk = some b, n, ds, Γ, h1, E0, none, true⟩ bI bh s a w) (hp : ∀ o ob, h0 o = some ob -> ∃ ct, h1 o = some ct /\ cA ob (μ o) ct (E0 o)) :
  Inv ⟨W, im, fun b => ∃ o, (μ o).blk = some b, n, ds, Γ, h0, μ, none, true⟩ bI bh s a w :=
 ⟨hi.os, hi.tape, hi.output, hi.grow, hi.old, hi.imC, hi.imNew, hi.imLt, hi.sep, hi.inj, hi.dom, hi.obj, hi.glob, hi.fr, hi.size, (by obtain ⟨ms, h1, h2⟩ := hi.defers; exact ⟨ms, h1, h2.nodup, h2.none, h2.all⟩), fun o ob h => by
  obtain ⟨ct, g1, g2⟩ := hp o ob h
  obtain ⟨rF, g3, g4⟩ := hi.pin o ct g1
  exact ⟨rF, g3, cA.trans g2 g4⟩⟩
theorem DN {E : Env} (hE : E.Good) (bO : E.P.follows .mixedOrders = true) {f : FuncId} {fn : Func} {depth : Nat} {live : List (Nat × List Nat)} {D : lU} {R0 y rest : Code} {id1 id2 : Nat} {capOps : Array Operand} {at' : Array TypeId} {ty1 QU ty3 ty4 : TypeId} {pos1 pos2 pos3 pos4 : String} {aft1 aft2 aft3 aft4 : Array Edge}
  (hf : E.P.funcs[f]? = some fn) (hcall : ∀ (vs : Array Value) (w : World), (callFunc f vs).run E.P w = .ok (.enter f vs) w)
  (hb : fn.body = some (.seq R0 (.seq (.region id1 #[⟨some D.t15, .makeFunc (.func D.g) #[] capOps, ty1, pos1, aft1, none⟩, ⟨none, .defer ⟨.value (.tmp D.t15), #[], at'⟩, QU, pos2, aft2, none⟩] false) y))) (hcap : capOps.toList = D.caps)
  (hcode : (b7 fn.ntmps R0 && b7 fn.ntmps y && Nat.blt D.t15 fn.ntmps) = true) (hdep : Nat.blt fn.ntmps (2 ^ depth) = true)
  (hg : E.P.funcs[D.g]? = some D.gn) (hcallg : ∀ (vs : Array Value) (w : World), (callFunc D.g vs).run E.P w = .ok (.enter D.g vs) w)
  (hgb : D.gn.body = some (.seq (.region id2 #[⟨some D.t5, .call ⟨.builtin .recover, #[], #[]⟩, ty3, pos3, aft3, none⟩, ⟨some D.t2, .assign (.tmp D.t5), ty4, pos4, aft4, none⟩] false) rest))
  (hres : D.gn.results = #[]) (h52 : (Nat.blt D.t5 D.gn.ntmps && Nat.blt D.t2 D.gn.ntmps && b7 D.gn.ntmps rest && Nat.blt D.gn.ntmps (2 ^ D.depth)) = true) : FnE.OK E.P E.gam f (rj E fn depth live D) := by
 refine ⟨?_, ?_⟩
 ·intro R args hs k
  simp only [rj]
  cases vN E fn depth live D args hs <;> rfl
 ·intro args hs ae aH h
  simp only [ba] at hcode h52
  obtain ⟨⟨c1, c2⟩, c3⟩ := hcode
  obtain ⟨⟨⟨d1, d2⟩, d3⟩, d4⟩ := h52
  have h15 : D.t15 < fn.ntmps := Nat.le_of_ble_eq_true c3
  have h5 : D.t5 < D.gn.ntmps := Nat.le_of_ble_eq_true d1
  have h2 : D.t2 < D.gn.ntmps := Nat.le_of_ble_eq_true d2
  simp only [rj] at h
  obtain ⟨p, hp, h⟩ := aS h
  cases h
  unfold vN at hp
  rw [hb, hgb] at hp
  simp only at hp
  cases hc : Nat.ble args.length fn.ntmps && cj hs.length hs with
  | false => rw [hc] at hp; cases hp
  | true =>
   rw [hc] at hp
   simp only [ba] at hc
   simp only [ai] at hp
   have hdep' : fn.ntmps < 2 ^ depth := Nat.le_of_ble_eq_true hdep
   refine ⟨hcall, fun W im μ vals iC hglob hI hargs => ?_⟩
   refine calls_of_wp_defers hf hb ?_
   have hinv := r6 (n := fn.ntmps) iC hE.gf hglob hI hargs (Nat.le_of_ble_eq_true hc.1) true
   have hCK : CK E ⟨fn.ntmps, depth, hs.length, live, false⟩ (zQ W im μ (aA hs) fn.ntmps E.gam true) := ⟨rfl, rfl, hdep', fun o ob ho => cb hc.2 o ob ho, (fun h => by cases h)⟩
   have hex := vM hE bO hCK R0 ⟨aw depth (number 0 args), hs, hs.length⟩ _ _ c1 (ku ⟨fn.ntmps, depth, hs.length, live, false⟩ hdep' _ _ _) hp
   have hex := iZ (s := ⟨jo args, aA hs⟩) (s' := (⟨aw depth (number 0 args), hs, hs.length⟩ : LSt).toA) (sO rfl fun x => by
    show (aw depth (number 0 args)).get x = .undef \/ (aw depth (number 0 args)).get x = jo args x
    rcases pQ depth args 0 x with h | ⟨j, h1, h2⟩
    ·exact .inl h
    ·exact .inr (by rw [h2, jq, h1]; simp)) hex
   refine wp_seq (wp_mono (wpIn_wide.1 (hex _ _ ⟨im, _, hinv⟩)) ?_)
   rintro e a w ⟨ae0, s', rfl, ⟨st, hle, hfit, hk⟩, hr⟩
   cases ae0 with
   | exit i => cases hk
   | ret => cases hk
   | panic t n => cases hk
   | normal =>
    simp only at hk
    cases hcc : (evs E st D.caps).all (lu st.hp) && cj st.nx st.hp with
    | false => rw [hcc] at hk; cases hk
    | true =>
     rw [hcc] at hk
     simp only [ba] at hcc
     simp only [ai] at hk
     obtain ⟨PH, E0, hi⟩ := hle _ _ hr
     have hdef0 : a.defers = [] := by
      obtain ⟨ms, hd, hm⟩ := hi.defers
      rw [hd, hm.none rfl]; rfl
     show (Code.seq _ _).wp E.P _ a w
     refine wp_seq (wp_region ?_)
     show wpOps E.P _ _ [0, 1] a w
     have hus : RepFs w PH E0 (aA st.hp) (evs E st D.caps) (capOps.toList.map a.eval) := by
      have hlen : ∀ l : List Operand, (∀ x ∈ l, lu st.hp (st.ev E x) = true) -> RepFs w PH E0 (aA st.hp) (evs E st l) (l.map a.eval) := by
       intro l
       induction l with
       | nil => intro _; simp [evs, RepFs]
       | cons x l ih =>
        intro hx
        simp only [evs, List.map_cons, RepFs]
        have J0 := hx x (by simp)
        have fO := hi.ev x
        rw [bC (C := zQ W im μ (aA hs) fn.ntmps E.gam true) rfl] at fO
        have eg : (st.ev E x).plain = true := by
         unfold lu at J0
         split at J0
         ·rename_i hq; rw [hq]; rfl
         ·cases J0
        obtain ⟨k1, k2⟩ := fO.toA eg
        exact ⟨_, _, rfl, k1, k2, ih (fun x hx' => hx x (by simp [hx']))⟩
      rw [hcap]
      refine hlen _ (fun x hx => ?_)
      have := hcc.1
      have hm : ∀ l : List Operand, x ∈ l -> ((evs E st l).all (lu st.hp)) = true -> lu st.hp (st.ev E x) = true := by
       intro l
       induction l with
       | nil => intro h; cases h
       | cons z l ih =>
        intro h ha
        simp only [evs, List.all_cons, ba] at ha
        rcases List.mem_cons.1 h with rfl | h
        ·exact ha.1
        ·exact ih h ha.2
      exact hm _ hx this
     have e0 : (execOp a.eval ⟨some D.t15, .makeFunc (.func D.g) #[] capOps, ty1, pos1, aft1, none⟩).run E.P w = .ok (.value (.func (.func D.g) #[] (capOps.map a.eval))) w := by
      simp [execOp, Instr.makeFunc]
     have hv15 : (a.put (some D.t15) (.func (.func D.g) #[] (capOps.map a.eval))).eval (.tmp D.t15) = .func (.func D.g) #[] (capOps.map a.eval) := by
      have fP : D.t15 < a.tmps.size := by rw [hi.size]; exact h15
      simp [Act.put, Act.eval, Array.getD_eq_getD_getElem?, fP]
     have e1 : (execOp (a.put (some D.t15) (.func (.func D.g) #[] (capOps.map a.eval))).eval ⟨none, .defer ⟨.value (.tmp D.t15), #[], at'⟩, QU, pos2, aft2, none⟩).run E.P w = .ok (.defer ⟨.fn (.func D.g) (capOps.map a.eval), #[]⟩) w := by
      simp [execOp, resolve, hv15, Deferred.ofValue]
     simp only [wpOps, List.getElem?_toArray, List.getElem?_cons_zero, List.getElem?_cons_succ, Region.wanted, if_true]
     refine .inl ?_
     unfold Oper.wp
     rw [e0, Oper.upon_value]
     refine .inl ?_
     rw [e1, Oper.upon_defer]
     have hp15 : bo w PH E0 (aA st.hp) (.fn (.func D.g) [] (evs E st D.caps)) (.func (.func D.g) #[] (capOps.map a.eval)) := by
      refine ⟨?_, rfl⟩
      simp only [RepA, RepFs, Value.cells]
      exact ⟨[], capOps.toList.map a.eval, by congr 2; apply Array.ext'; simp, rfl, hus⟩
     have iE := hi.put (w' := w) (dst := some D.t15) rfl rfl rfl rfl (fun d hd => by cases hd; exact h15) hp15
     have lB : Inv ⟨W, im, fun b => ∃ o, (μ o).blk = some b, fn.ntmps, [⟨.fn (.func D.g) (capOps.map a.eval), #[]⟩], E.gam, aA st.hp, E0, none, true⟩ PH E0 (st.set D.t15 (.fn (.func D.g) [] (evs E st D.caps))).toA
       ({ (a.put (some D.t15) (.func (.func D.g) #[] (capOps.map a.eval))) with defers := ⟨.fn (.func D.g) (capOps.map a.eval), #[]⟩ :: (a.put (some D.t15) (.func (.func D.g) #[] (capOps.map a.eval))).defers }.put none Go.undef) w := by
      refine ⟨iE.os, iE.tape, iE.output, iE.grow, iE.old, iE.imC, iE.imNew, iE.imLt, iE.sep, iE.inj, iE.dom, iE.obj, iE.glob, ?_, iE.size, ⟨[], by simp only [Act.put]; rw [hdef0]; rfl, List.nodup_nil, fun _ => rfl, fun r hr => by cases hr⟩, fun o ob h => ⟨ob, h, cA.refl _ _⟩⟩
      intro x
      have := iE.fr x
      show bo w PH E0 (aA st.hp) ((st.set D.t15 (.fn (.func D.g) [] (evs E st D.caps))).fr.get x) _
      have hse : (st.set D.t15 (.fn (.func D.g) [] (evs E st D.caps))).fr.get x = ((st.toA.put (some D.t15) (.fn (.func D.g) [] (evs E st D.caps))).fr) x := by
       simp only [LSt.set, ASt.put, ly, LSt.toA]
       rw [Tr.get_set _ _ _ _ (hfit D.t15 h15)]
      rw [hse]; exact this
     have hCK2 : CK E ⟨fn.ntmps, depth, st.nx, live, false⟩ ⟨W, im, fun b => ∃ o, (μ o).blk = some b, fn.ntmps, [⟨.fn (.func D.g) (capOps.map a.eval), #[]⟩], E.gam, aA st.hp, E0, none, true⟩ := ⟨rfl, rfl, hdep', fun o ob ho => cb hcc.2 o ob ho, (fun h => by cases h)⟩
     have hex2 := vM hE bO hCK2 y _ _ _ c2 (fT hfit _ _) hk
     refine wp_mono (wpIn_wide.1 (hex2 _ _ ⟨PH, E0, lB⟩)) ?_
     rintro e3 a3 w3 ⟨ae3, s3, rfl, ⟨S, hle3, hfit3, rH⟩, hr3⟩
     obtain ⟨im3, μ3, wO⟩ := hle3 _ _ hr3
     have hfinal : ∀ (u : FrameMode) (rv : Value) (u' : FrameMode) (av : AV), Av u rv u' -> settle u' = .returning -> Qu ae3 = some av -> (∀ (w : World) (im : Nat -> Prop) (μ : Mu) (hp : Hp), bo w im μ hp av rv) ->
       Leaves E.P fn a3.tmps (fun e w' => ∃ nd h1 bI bh, (nd = p.1 /\ h1 = aA p.2) /\ dc W im μ (aA hs) w' bI bh h1 /\ j5 w' bI bh h1 nd e) a3.defers u w3 := by
      intro u rv u' av hm hset JV hrv
      have hdef3 : a3.defers = [⟨.fn (.func D.g) (capOps.map a.eval), #[]⟩] := by
       obtain ⟨ms, hd, hm⟩ := wO.defers
       rw [hd, hm.none rfl]; rfl
      rw [hdef3]
      refine ⟨by cases hm <;> simp, .func D.g, capOps.map a.eval, D.g, capOps.map a.eval, rfl, ?_, ?_⟩
      ·show (callFunc D.g (#[] ++ capOps.map a.eval)).run E.P w3 = _
       rw [Array.empty_append]; exact hcallg _ _
      ·have hus3 : RepFs w3 im3 μ3 (aA S.hp) (evs E st D.caps) (capOps.toList.map a.eval) := qu hcc.1 hus (fun o ob ho => wO.pin o ob ho)
       unfold Qv at rH
       rw [JV] at rH
       simp only at rH
       generalize hL : fb S.hp cF (refsL (evs E st D.caps)) [] = L at rH
       cases hgood : (ju S.hp L 0).good with
       | false => rw [hgood] at rH; cases rH
       | true =>
        rw [hgood] at rH
        simp only [ai] at rH
        split at rH
        ·rename_i args' hargs'
         split at rH
         ·rename_i hsG hhsG
          split at rH
          ·rename_i hsG' hrunG
           cases hgd : (dF S.hp L 0 ++ dk L.length S.nx hsG' : Sg).good && dY S.hp (dk L.length S.nx hsG') with
           | false => rw [hgd] at rH; cases rH
           | true =>
            rw [hgd] at rH
            simp only [ba] at hgd
            simp only [ai] at rH
            split at rH
            ·rename_i wr wR
             split at rH
             ·rename_i rs u7
              obtain ⟨σf, hf1, rsf, g1, g2, g3, g4⟩ := sL rH
              cases g4
              have hH := gJ hgood hhsG
              have hB := xp hgd.1 hgd.2 wR
              obtain ⟨hI3, hS3⟩ := hH.inv (fun o b h => ⟨(wO.sep o b h).1, (wO.sep o b h).2.1⟩) wO.inj wO.obj
              have hargs3 := RepFs.ren hS3 _ _ _ hargs' hus3
              have hglob3 : kT E.gam w3 im3 := fun g v h => by
               obtain ⟨h1, h2⟩ := (wO.glob g v h).toA (fB (hE.gf g v h))
               exact bo.ofA (RepA.free _ _ (hE.gf g v h) h1) h2
              have hcd := Qw hE bO hg hgb hres h5 h2 d3 d4 hrunG hm hrv wO.imLt hglob3 hI3 hargs3
              rw [show (capOps.toList.map a.eval).toArray = capOps.map a.eval by apply Array.ext'; simp] at hcd
              intro c cs Hr
              obtain ⟨e, u'', w4, fr, ⟨rfl, ⟨v, rfl⟩, h1, im4, μ4, rfl, hst4⟩, hcomes, hkind, hgoing⟩ := hcd c cs Hr
              refine ⟨.returned v, u'', w4, fr, ?_, hcomes, hkind, hgoing⟩
              show Leaves E.P fn a3.tmps _ [] (settle u'') w4
              rw [hset]
              have hback := wO.back (dst := none) hH hB hst4 (fun d hd => by cases hd) (av := .undef) (v := Go.undef) trivial
              have hbk := hback.toH (h0 := aA hs) (μ := μ) (fun o ob h => hi.pin o ob h)
              have hra := rh u7
              have kf : (⟨S.fr, wr ++ S.hp, S.nx⟩ : LSt).toA = ⟨(S.toA.put none .undef).fr, aG S.toA.hp wr⟩ := by
               unfold LSt.toA ASt.put
               simp only
               congr 1
               exact a8 _ _
              rw [kf] at hra
              obtain ⟨vs, q1, q2⟩ := jS hbk hra
              have hH2 : cu σf (aG S.toA.hp wr) (aA hf1) := by
               have := g1
               rw [a8] at this
               exact this
              obtain ⟨hstf, hSf⟩ := hbk.hpStepV hH2 (fun o ob ho => g3 o (cb hc.2 o ob ho))
              obtain ⟨v', q3, q4⟩ := qi (fn := fn) q1 (RepFs.ren hSf _ _ _ g2 q2)
              exact ⟨v', q3, .ret rsf, _, im4, _, ⟨rfl, rfl⟩, hstf, q4⟩
             ·cases rH
            ·cases rH
          ·cases rH
         ·cases rH
        ·cases rH
     cases ae3 with
     | exit i => cases rH
     | normal => exact hfinal _ _ _ .nilif .calm rfl rfl (fun w im μ hp => aP _ _ _ _ .nilIface)
     | ret => exact hfinal _ _ _ .nilif .calm rfl rfl (fun w im μ hp => aP _ _ _ _ .nilIface)
     | panic t n => exact hfinal _ _ _ (.iface t (.d (.int .i64) n)) (.caught _) rfl rfl (fun w im μ hp => ⟨by simp only [RepA, aM, Value.cells]; exact ⟨_, rfl, rfl, rfl⟩, rfl⟩)
end Go.Vm
