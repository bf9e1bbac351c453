/- Part X of the abstract machine: the executor of a loop's rounds. -/
import Derived.Test.YtckoidchbbfkkaaGreatDoorS25
namespace Go.Vm

def setL : LSt → List Tmp → List AV → LSt
  | s, t :: ts, a :: as => setL (s.set t a) ts as
  | s, _, _ => s

theorem setL_fr {n : Nat} : ∀ (ts : List Tmp) (as : List AV) (s : LSt), s.fits n → (∀ t ∈ ts, t < n) → (setL s ts as).fits n ∧ (setL s ts as).hp = s.hp ∧ (setL s ts as).nx = s.nx ∧ ∀ x, (setL s ts as).fr.get x = setPs s.fr.get ts as x
  | [], as, s, hf, _ => by cases as <;> exact ⟨hf, rfl, rfl, fun _ => rfl⟩
  | t :: ts, [], s, hf, _ => ⟨hf, rfl, rfl, fun _ => rfl⟩
  | t :: ts, a :: as, s, hf, ht => by
    obtain ⟨h1, h2, h3, h4⟩ := setL_fr ts as (s.set t a) (set_fits hf _ _) (fun t' ht' => ht t' (by simp [ht']))
    refine ⟨h1, h2, h3, fun x => ?_⟩
    have e : (s.set t a).fr.get = putF s.fr.get t a := by
      funext y
      simp only [LSt.set, putF]
      rw [Tr.get_set _ _ _ _ (hf t (ht t (by simp)))]
    show (setL (s.set t a) ts as).fr.get x = setPs (putF s.fr.get t a) ts as x
    rw [h4 x, e]

def endR (base o : Nat) (e : AEx) (s2 : LSt) : Option (Bool × LHp) :=
  match jmpOf e with
  | some j =>
    (match hget s2.hp o with
    | some (.rc (.loop lc2 fr2 .busy)) => fin base ((o, .rc (.loop lc2 fr2 (staOf j))) :: s2.hp) [] (fun _ h1 => some (j.isNone, h1))
    | _ => none)
  | none => none

def runR (E : Env) (live : List (Nat × List Nat)) (o : Nat) (args : List AV) (hs : LHp) : Option (Bool × LHp) :=
  match hget hs o with
  | some (.rc (.loop lc fr .ready)) =>
    bif below hs.length hs && Nat.beq lc.ps.size args.length && (lc.ps.toList.all (fun t => Nat.blt t lc.n)) && codeIn lc.n lc.assign && codeIn lc.n lc.body && Nat.blt lc.n (2 ^ lc.key) then
      ex E ⟨lc.n, lc.key, hs.length, live, false⟩ lc.assign (setL ⟨mkFr lc.key fr, hs, hs.length⟩ lc.ps.toList args) fun e s1 =>
        match e with
        | .normal =>
          (match hget s1.hp o with
          | some (.rc (.loop lc1 fr1 .ready)) => ex E ⟨lc.n, lc.key, hs.length, live, false⟩ lc.body ⟨s1.fr, (o, .rc (.loop lc1 fr1 .busy)) :: s1.hp, s1.nx⟩ (endR hs.length o)
          | _ => none)
        | _ => none
    else none
  | _ => none

def roundE (E : Env) (live : List (Nat × List Nat)) : RoundE := { run := fun o args hs k => (runR E live o args hs).bind fun p => k p.1 p.2 }

theorem roundE_ok {E : Env} (hE : E.Good) (hmix : E.P.follows .mixedOrders = true) (live : List (Nat × List Nat)) : RoundE.OK E.P E.gam (roundE E live) := by
  refine ⟨?_, ?_⟩
  · intro R o args hs k
    simp only [roundE]
    cases runR E live o args hs <;> rfl
  · intro o args hs c hs' h
    simp only [roundE] at h
    obtain ⟨p, hp, h⟩ := bind_some h
    cases h
    unfold runR at hp
    split at hp
    · rename_i lc fr ho
      cases hc : below hs.length hs && Nat.beq lc.ps.size args.length && (lc.ps.toList.all (fun t => Nat.blt t lc.n)) && codeIn lc.n lc.assign && codeIn lc.n lc.body && Nat.blt lc.n (2 ^ lc.key) with
      | false => rw [hc] at hp; cases hp
      | true =>
        rw [hc] at hp
        simp only [Bool.and_eq_true] at hc
        obtain ⟨⟨⟨⟨⟨hbel, hlen⟩, hps⟩, hca⟩, hcb⟩, hdep⟩ := hc
        simp only [cond_true] at hp
        have hdep' : lc.n < 2 ^ lc.key := Nat.le_of_ble_eq_true hdep
        have hps' : ∀ t ∈ lc.ps.toList, t < lc.n := fun t ht => Nat.le_of_ble_eq_true (List.all_eq_true.1 hps t ht)
        obtain ⟨hf0, hh0, hn0, hfr0⟩ := setL_fr (n := lc.n) lc.ps.toList args ⟨mkFr lc.key fr, hs, hs.length⟩ (full_fits ⟨lc.n, lc.key, hs.length, live, false⟩ hdep' fr hs hs.length) hps'
        refine roundH_of_aw (f := (mkFr lc.key fr).get) hE.gf ho (fun x => mkFr_get lc.key fr x) (Nat.eq_of_beq_eq_true hlen) hps' fun W im μ l => ?_
        have hCK : CK E ⟨lc.n, lc.key, hs.length, live, false⟩ (ctxR W im μ (hget hs) lc.n E.gam l) := ⟨rfl, rfl, hdep', fun o ob ho => below_spec hbel o ob ho, (fun h => by cases h)⟩
        have hex := ex_ok hE hmix hCK lc.assign _ _ _ hca hf0 hp
        have e0 : (setL ⟨mkFr lc.key fr, hs, hs.length⟩ lc.ps.toList args : LSt).toA = ⟨setPs (mkFr lc.key fr).get lc.ps.toList args, hget hs⟩ := by
          unfold LSt.toA
          rw [hh0]
          congr 1
          funext x
          exact hfr0 x
        rw [e0] at hex
        refine aw_via hex ?_
        rintro e s' ⟨st, hle, hfit, hk⟩
        cases e with
        | exit i => cases hk
        | ret => cases hk
        | panic t n => cases hk
        | normal =>
          simp only at hk
          split at hk
          · rename_i lc1 fr1 ho1
            refine ⟨st.toA, hle, rfl, lc1, fr1, ho1, ?_⟩
            have hex2 := ex_ok hE hmix hCK lc.body _ _ _ hcb (show (⟨st.fr, (o, AObj.rc (.loop lc1 fr1 .busy)) :: st.hp, st.nx⟩ : LSt).fits lc.n from hfit) hk
            have e1 : (⟨st.fr, (o, AObj.rc (.loop lc1 fr1 .busy)) :: st.hp, st.nx⟩ : LSt).toA = ⟨st.toA.fr, hpSet st.toA.hp [(o, .rc (.loop lc1 fr1 .busy))]⟩ := by
              unfold LSt.toA
              simp only
              congr 1
              exact hget_append [_] st.hp
            rw [e1] at hex2
            refine aw_via hex2 ?_
            rintro e2 s2 ⟨st2, hle2, _, hk2⟩
            refine ⟨st2.toA, hle2, ?_⟩
            unfold endR at hk2
            split at hk2
            · rename_i j hj
              split at hk2
              · rename_i lc2 fr2 ho2
                obtain ⟨σ, h1, rs', g1, g2, g3, g4⟩ := fin_ok hk2
                cases g4
                refine ⟨j, lc2, fr2, σ, _, hj, ho2, ?_, fun o ob ho => g3 o (below_spec hbel o ob ho), rfl, rfl⟩
                have : hget ((o, AObj.rc (.loop lc2 fr2 (staOf j))) :: st2.hp) = hpSet st2.toA.hp [(o, .rc (.loop lc2 fr2 (staOf j)))] := hget_append [_] st2.hp
                rw [← this]; exact g1
              · cases hk2
            · cases hk2
          · cases hk
    · cases hp

def Env.withRound (E : Env) (g : RoundE) : Env := { E with round := some g }
theorem Env.Good.withRound {E : Env} (h : E.Good) {g : RoundE} (hg : RoundE.OK E.P E.gam g) : (E.withRound g).Good :=
  ⟨⟨h.ty⟩, h.gf, h.calls, h.exts, fun g' hg' => by cases hg'; exact hg⟩

end Go.Vm
