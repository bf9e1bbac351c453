/- Part X of the abstract machine: the executor of a loop's rounds. -/
import Derived.Test.YtnkhoojomojbpaaGreatDoorK24
namespace Go.Vm
def xD : LSt -> List Tmp -> List AV -> LSt
 | s, t :: ts, a :: as => xD (s.set t a) ts as
 | s, _, _ => s
theorem Fj {n : Nat} : ∀ (ts : List Tmp) (as : List AV) (s : LSt), s.fits n -> (∀ t ∈ ts, t < n) -> (xD s ts as).fits n /\ (xD s ts as).hp = s.hp /\ (xD s ts as).nx = s.nx /\ ∀ x, (xD s ts as).fr.get x = qj s.fr.get ts as x
 | [], as, s, hf, _ => by cases as <;> exact ⟨hf, rfl, rfl, fun _ => rfl⟩
 | t :: ts, [], s, hf, _ => ⟨hf, rfl, rfl, fun _ => rfl⟩
 | t :: ts, a :: as, s, hf, ht => by
  obtain ⟨h1, h2, h3, h4⟩ := Fj ts as (s.set t a) (fT hf _ _) (fun t' ht' => ht t' (by simp [ht']))
  refine ⟨h1, h2, h3, fun x => ?_⟩
  have e : (s.set t a).fr.get = ly s.fr.get t a := by
   funext y
   simp only [LSt.set, ly]
   rw [Tr.get_set _ _ _ _ (hf t (ht t (by simp)))]
  show (xD (s.set t a) ts as).fr.get x = qj (ly s.fr.get t a) ts as x
  rw [h4 x, e]
def Qx (base o : Nat) (e : AEx) (s2 : LSt) : Option (Bool × LHp) :=
 match E8 e with
 | some j =>
  (match aA s2.hp o with
  | some (.rc (.loop PE PF .busy)) => fin base ((o, .rc (.loop PE PF (vt j))) :: s2.hp) [] (fun _ h1 => some (j.isNone, h1))
  | _ => none)
 | none => none
def H7 (E : Env) (live : List (Nat × List Nat)) (o : Nat) (args : List AV) (hs : LHp) : Option (Bool × LHp) :=
 match aA hs o with
 | some (.rc (.loop lc fr .ready)) =>
  bif cj hs.length hs && Nat.beq lc.ps.size args.length && (lc.ps.toList.all (fun t => Nat.blt t lc.n)) && b7 lc.n lc.assign && b7 lc.n lc.body && Nat.blt lc.n (2 ^ lc.key) then
   ex E ⟨lc.n, lc.key, hs.length, live, false⟩ lc.assign (xD ⟨aw lc.key fr, hs, hs.length⟩ lc.ps.toList args) fun e s1 =>
    match e with
    | .normal =>
     (match aA s1.hp o with
     | some (.rc (.loop n1 n2 .ready)) => ex E ⟨lc.n, lc.key, hs.length, live, false⟩ lc.body ⟨s1.fr, (o, .rc (.loop n1 n2 .busy)) :: s1.hp, s1.nx⟩ (Qx hs.length o)
     | _ => none)
    | _ => none
  else none
 | _ => none
def DO (E : Env) (live : List (Nat × List Nat)) : dV := { run := fun o args hs k => (H7 E live o args hs).bind fun p => k p.1 p.2 }
theorem H8 {E : Env} (hE : E.Good) (bO : E.P.follows .mixedOrders = true) (live : List (Nat × List Nat)) : dV.OK E.P E.gam (DO E live) := by
 refine ⟨?_, ?_⟩
 ·intro R o args hs k
  simp only [DO]
  cases H7 E live o args hs <;> rfl
 ·intro o args hs c aH h
  simp only [DO] at h
  obtain ⟨p, hp, h⟩ := aS h
  cases h
  unfold H7 at hp
  split at hp
  ·rename_i lc fr ho
   cases hc : cj hs.length hs && Nat.beq lc.ps.size args.length && (lc.ps.toList.all (fun t => Nat.blt t lc.n)) && b7 lc.n lc.assign && b7 lc.n lc.body && Nat.blt lc.n (2 ^ lc.key) with
   | false => rw [hc] at hp; cases hp
   | true =>
    rw [hc] at hp
    simp only [ba] at hc
    obtain ⟨⟨⟨⟨⟨hbel, hlen⟩, PG⟩, hca⟩, hcb⟩, hdep⟩ := hc
    simp only [ai] at hp
    have hdep' : lc.n < 2 ^ lc.key := Nat.le_of_ble_eq_true hdep
    have hps' : ∀ t ∈ lc.ps.toList, t < lc.n := fun t ht => Nat.le_of_ble_eq_true (List.all_eq_true.1 PG t ht)
    obtain ⟨hf0, hh0, hn0, hfr0⟩ := Fj (n := lc.n) lc.ps.toList args ⟨aw lc.key fr, hs, hs.length⟩ (ku ⟨lc.n, lc.key, hs.length, live, false⟩ hdep' fr hs hs.length) hps'
    refine xa (f := (aw lc.key fr).get) hE.gf ho (fun x => lN lc.key fr x) (bj hlen) hps' fun W im μ l => ?_
    have hCK : CK E ⟨lc.n, lc.key, hs.length, live, false⟩ (Qb W im μ (aA hs) lc.n E.gam l) := ⟨rfl, rfl, hdep', fun o ob ho => cb hbel o ob ho, (fun h => by cases h)⟩
    have hex := vM hE bO hCK lc.assign _ _ _ hca hf0 hp
    have e0 : (xD ⟨aw lc.key fr, hs, hs.length⟩ lc.ps.toList args : LSt).toA = ⟨qj (aw lc.key fr).get lc.ps.toList args, aA hs⟩ := by
     unfold LSt.toA
     rw [hh0]
     congr 1
     funext x
     exact hfr0 x
    rw [e0] at hex
    refine xz hex ?_
    rintro e s' ⟨st, hle, hfit, hk⟩
    cases e with
    | exit i => cases hk
    | ret => cases hk
    | panic t n => cases hk
    | normal =>
     simp only at hk
     split at hk
     ·rename_i n1 n2 uB
      refine ⟨st.toA, hle, rfl, n1, n2, uB, ?_⟩
      have hex2 := vM hE bO hCK lc.body _ _ _ hcb (show (⟨st.fr, (o, aj.rc (.loop n1 n2 .busy)) :: st.hp, st.nx⟩ : LSt).fits lc.n from hfit) hk
      have e1 : (⟨st.fr, (o, aj.rc (.loop n1 n2 .busy)) :: st.hp, st.nx⟩ : LSt).toA = ⟨st.toA.fr, aG st.toA.hp [(o, .rc (.loop n1 n2 .busy))]⟩ := by
       unfold LSt.toA
       simp only
       congr 1
       exact a8 [_] st.hp
      rw [e1] at hex2
      refine xz hex2 ?_
      rintro e2 s2 ⟨st2, hle2, _, PJ⟩
      refine ⟨st2.toA, hle2, ?_⟩
      unfold Qx at PJ
      split at PJ
      ·rename_i j hj
       split at PJ
       ·rename_i PE PF ho2
        obtain ⟨σ, h1, fQ, g1, g2, g3, g4⟩ := sL PJ
        cases g4
        refine ⟨j, PE, PF, σ, _, hj, ho2, ?_, fun o ob ho => g3 o (cb hbel o ob ho), rfl, rfl⟩
        have : aA ((o, aj.rc (.loop PE PF (vt j))) :: st2.hp) = aG st2.toA.hp [(o, .rc (.loop PE PF (vt j)))] := a8 [_] st2.hp
        rw [← this]; exact g1
       ·cases PJ
      ·cases PJ
     ·cases hk
  ·cases hp
def Env.withRound (E : Env) (g : dV) : Env := { E with round := some g }
theorem Env.Good.withRound {E : Env} (h : E.Good) {g : dV} (hg : dV.OK E.P E.gam g) : (E.withRound g).Good :=
 ⟨⟨h.ty⟩, h.gf, h.calls, h.exts, fun g' PI => by cases PI; exact hg⟩
end Go.Vm
