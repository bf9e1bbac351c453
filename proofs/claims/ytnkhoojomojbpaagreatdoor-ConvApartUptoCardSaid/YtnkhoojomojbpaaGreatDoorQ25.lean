/- Part X of the abstract machine: the executor of a loop's rounds. -/
import Derived.Test.YtnkhoojomojbpaaGreatDoorQ24
namespace Go.Vm
def yh : LSt -> List Tmp -> List AV -> LSt
 | s, t :: ts, a :: as => yh (s.set t a) ts as
 | s, _, _ => s
theorem Fp {n : Nat} : ∀ (ts : List Tmp) (as : List AV) (s : LSt), s.fits n -> (∀ t ∈ ts, t < n) -> (yh s ts as).fits n /\ (yh s ts as).hp = s.hp /\ (yh s ts as).nx = s.nx /\ ∀ x, (yh s ts as).fr.get x = qS s.fr.get ts as x
 | [], as, s, hf, _ => by cases as <;> exact ⟨hf, rfl, rfl, fun _ => rfl⟩
 | t :: ts, [], s, hf, _ => ⟨hf, rfl, rfl, fun _ => rfl⟩
 | t :: ts, a :: as, s, hf, ht => by
  obtain ⟨h1, h2, h3, h4⟩ := Fp ts as (s.set t a) (gD hf _ _) (fun t' ht' => ht t' (by simp [ht']))
  refine ⟨h1, h2, h3, fun x => ?_⟩
  have e : (s.set t a).fr.get = l7 s.fr.get t a := by
   funext y
   simp only [LSt.set, l7]
   rw [Tr.get_set _ _ _ _ (hf t (ht t (by simp)))]
  show (yh (s.set t a) ts as).fr.get x = qS (l7 s.fr.get t a) ts as x
  rw [h4 x, e]
def Qt (base o : Nat) (e : AEx) (s2 : LSt) : Option (Bool × LHp) :=
 match Fi e with
 | some j =>
  (match az s2.hp o with
  | some (.rc (.loop PE PF .busy)) => fin base ((o, .rc (.loop PE PF (wj j))) :: s2.hp) [] (fun _ h1 => some (j.isNone, h1))
  | _ => none)
 | none => none
def Ii (E : Env) (live : List (Nat × List Nat)) (o : Nat) (args : List AV) (hs : LHp) : Option (Bool × LHp) :=
 match az hs o with
 | some (.rc (.loop lc fr .ready)) =>
  bif cF hs.length hs && Nat.beq lc.ps.size args.length && (lc.ps.toList.all (fun t => Nat.blt t lc.n)) && cA lc.n lc.assign && cA lc.n lc.body && Nat.blt lc.n (2 ^ lc.key) then
   ex E ⟨lc.n, lc.key, hs.length, live, false⟩ lc.assign (yh ⟨aw lc.key fr, hs, hs.length⟩ lc.ps.toList args) fun e s1 =>
    match e with
    | .normal =>
     (match az s1.hp o with
     | some (.rc (.loop oQ oR .ready)) => ex E ⟨lc.n, lc.key, hs.length, live, false⟩ lc.body ⟨s1.fr, (o, .rc (.loop oQ oR .busy)) :: s1.hp, s1.nx⟩ (Qt hs.length o)
     | _ => none)
    | _ => none
  else none
 | _ => none
def D3 (E : Env) (live : List (Nat × List Nat)) : eu := { run := fun o args hs k => (Ii E live o args hs).bind fun p => k p.1 p.2 }
theorem Ij {E : Env} (hE : E.Good) (bX : E.P.follows .mixedOrders = true) (live : List (Nat × List Nat)) : eu.OK E.P E.gam (D3 E live) := by
 refine ⟨?_, ?_⟩
 ·intro R o args hs k
  simp only [D3]
  cases Ii E live o args hs <;> rfl
 ·intro o args hs c aF h
  simp only [D3] at h
  obtain ⟨p, hp, h⟩ := aS h
  cases h
  unfold Ii at hp
  split at hp
  ·rename_i lc fr ho
   cases hc : cF hs.length hs && Nat.beq lc.ps.size args.length && (lc.ps.toList.all (fun t => Nat.blt t lc.n)) && cA lc.n lc.assign && cA lc.n lc.body && Nat.blt lc.n (2 ^ lc.key) with
   | false => rw [hc] at hp; cases hp
   | true =>
    rw [hc] at hp
    simp only [bg] at hc
    obtain ⟨⟨⟨⟨⟨hbel, hlen⟩, PG⟩, hca⟩, hcb⟩, hdep⟩ := hc
    simp only [ak] at hp
    have hdep' : lc.n < 2 ^ lc.key := Nat.le_of_ble_eq_true hdep
    have hps' : ∀ t ∈ lc.ps.toList, t < lc.n := fun t ht => Nat.le_of_ble_eq_true (List.all_eq_true.1 PG t ht)
    obtain ⟨hf0, hh0, hn0, hfr0⟩ := Fp (n := lc.n) lc.ps.toList args ⟨aw lc.key fr, hs, hs.length⟩ (kX ⟨lc.n, lc.key, hs.length, live, false⟩ hdep' fr hs hs.length) hps'
    refine xM (f := (aw lc.key fr).get) hE.gf ho (fun x => mv lc.key fr x) (bo hlen) hps' fun W im μ l => ?_
    have hCK : CK E ⟨lc.n, lc.key, hs.length, live, false⟩ (P8 W im μ (az hs) lc.n E.gam l) := ⟨rfl, rfl, hdep', fun o ob ho => cD hbel o ob ho, (fun h => by cases h)⟩
    have hex := wH hE bX hCK lc.assign _ _ _ hca hf0 hp
    have e0 : (yh ⟨aw lc.key fr, hs, hs.length⟩ lc.ps.toList args : LSt).toA = ⟨qS (aw lc.key fr).get lc.ps.toList args, az hs⟩ := by
     unfold LSt.toA
     rw [hh0]
     congr 1
     funext x
     exact hfr0 x
    rw [e0] at hex
    refine yc hex ?_
    rintro e s' ⟨st, hle, hfit, hk⟩
    cases e with
    | exit i => cases hk
    | ret => cases hk
    | panic t n => cases hk
    | normal =>
     simp only at hk
     split at hk
     ·rename_i oQ oR Dg
      refine ⟨st.toA, hle, rfl, oQ, oR, Dg, ?_⟩
      have hex2 := wH hE bX hCK lc.body _ _ _ hcb (show (⟨st.fr, (o, al.rc (.loop oQ oR .busy)) :: st.hp, st.nx⟩ : LSt).fits lc.n from hfit) hk
      have e1 : (⟨st.fr, (o, al.rc (.loop oQ oR .busy)) :: st.hp, st.nx⟩ : LSt).toA = ⟨st.toA.fr, aG st.toA.hp [(o, .rc (.loop oQ oR .busy))]⟩ := by
       unfold LSt.toA
       simp only
       congr 1
       exact bj [_] st.hp
      rw [e1] at hex2
      refine yc hex2 ?_
      rintro e2 s2 ⟨st2, hle2, _, hk2⟩
      refine ⟨st2.toA, hle2, ?_⟩
      unfold Qt at hk2
      split at hk2
      ·rename_i j hj
       split at hk2
       ·rename_i PE PF ho2
        obtain ⟨σ, h1, fO, g1, g2, g3, g4⟩ := tJ hk2
        cases g4
        refine ⟨j, PE, PF, σ, _, hj, ho2, ?_, fun o ob ho => g3 o (cD hbel o ob ho), rfl, rfl⟩
        have : az ((o, al.rc (.loop PE PF (wj j))) :: st2.hp) = aG st2.toA.hp [(o, .rc (.loop PE PF (wj j)))] := bj [_] st2.hp
        rw [← this]; exact g1
       ·cases hk2
      ·cases hk2
     ·cases hk
  ·cases hp
def Env.withRound (E : Env) (g : eu) : Env := { E with round := some g }
theorem Env.Good.withRound {E : Env} (h : E.Good) {g : eu} (hg : eu.OK E.P E.gam g) : (E.withRound g).Good :=
 ⟨⟨h.ty⟩, h.gf, h.calls, h.exts, fun g' xv => by cases xv; exact hg⟩
end Go.Vm
