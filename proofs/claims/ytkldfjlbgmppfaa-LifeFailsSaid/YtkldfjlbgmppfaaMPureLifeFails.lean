/- LifeFails: one that misses each time fails just behind as many attempts as it may. Numbers and lists alone. -/
import Derived.Test.YtkldfjlbgmppfaaMLifeFailsx3
import Derived.Test.YtkldfjlbgmppfaaLfLifeFails
import Derived.Test.YtkldfjlbgmppfaaPlain
namespace Go.Proofs.Ytkldfjlbgmppfaa.Pure
open Go.RowKit Go.Proofs.Ytkldfjlbgmppfaa.MLifeFails Go.Proofs.Ytkldfjlbgmppfaa.Plain Go.Proofs.YtkldfjlbgmppfaaW.PrintWords Go.Proofs.YtkldfjlbgmppfaaW.PrintLast Go.Proofs.YtkldfjlbgmppfaaW.PrintMore

theorem shown_any (k : Nat) (hk : 90 ≤ k) : millwrightlaw09_shown.f k = some true := at_rounds millwrightlaw09_shown.mono hk (by decide +kernel)

theorem wrap_int {z : Int} (h : -10 ≤ z ∧ z ≤ 1000) : wrap64 (z + 1) = z + 1 := by unfold wrap64; omega

/-- One miss, and what follows. -/
theorem missed (n : Nat) (hn : 1 ≤ n ∧ n ≤ 100) (l : List Bool) (k : Nat) (hk : 30 ≤ k) (i : Nat) (hi : 1 ≤ i ∧ i ≤ n) (st e : Int)
    (hrest : ∀ s, (s = if i = n then 6 else 1) → millwrightlaw09_LifeFails.l0 k (n : Int) l true st ((i + 1 : Nat) : Int) s e (i : Int) st (n : Int) 100 = some true) :
    millwrightlaw09_LifeFails.j2 (k + 1) (n : Int) l true st (i : Int) 2 e ((i : Int) - 1) st (n : Int) 100 = some true := by
  have hw : wrap64 ((i : Int) - 1 + 1) = (i : Int) := by rw [wrap_int (by omega)]; omega
  have hw2 : wrap64 ((i : Int) + 1) = ((i + 1 : Nat) : Int) := by rw [wrap_int (by omega)]; omega
  simp only [millwrightlaw09_LifeFails.j2]
  rw [Miss_f k (by omega) _ _ _ _ _ _ (by omega), if_pos (rfl : (2 : Int) = 2), hw, Option.bind_some]
  simp only [if_true, life_Life_State.f, Option.bind_some]
  by_cases c : i = n
  · have h1 : (i : Int) ≥ (n : Int) := by omega
    have h2 : ¬ (i : Int) < (n : Int) := by omega
    rw [if_pos h1]
    simp only [if_true]
    rw [if_pos (by omega), if_neg h2, hw2]
    exact hrest 6 (by rw [if_pos c])
  · have h1 : ¬ (i : Int) ≥ (n : Int) := by omega
    rw [if_neg h1]
    rw [if_neg (show ¬ ((4 : Int) = 6) by decide), if_neg (by omega), if_pos (by omega)]
    simp only [if_true]
    rw [Rested_f k (by omega) _ _ _ _ _ _ (by omega), if_pos (rfl : (4 : Int) = 4), Option.bind_some]
    simp only [if_true]
    rw [hw2]
    exact hrest 1 (by rw [if_neg c])

theorem loop (n : Nat) (hn : 1 ≤ n ∧ n ≤ 100) (l : List Bool) : ∀ (d k i : Nat) (st : Nat) (s : Int), 1 ≤ i → i + d = n + 1 → st < i → d * 3 + 40 ≤ k → (s = if i = n + 1 then 6 else 1) →
    millwrightlaw09_LifeFails.l0 k (n : Int) l true (st : Int) (i : Int) s ((i : Int) - 1 + (st : Int)) ((i : Int) - 1) (st : Int) (n : Int) 100 = some true := by
  intro d
  induction d with
  | zero =>
    intro k i st s h1 hi hst hk hs
    obtain ⟨k, rfl⟩ : ∃ m, k = m + 1 := ⟨k - 1, by omega⟩
    rw [if_pos (by omega)] at hs
    subst hs
    have hw : wrap64 ((n : Int) + (st : Int)) = (n : Int) + (st : Int) := by unfold wrap64; omega
    have he : (i : Int) - 1 = (n : Int) := by omega
    simp only [millwrightlaw09_LifeFails.l0]
    rw [if_neg (by omega), he]
    simp [life_Life_Missed.f, life_Life_Stopped.f, life_Life_Epoch.f, life_Life_Final.f, hw]
  | succ d ih =>
    intro k i st s h1 hi hst hk hs
    obtain ⟨k, rfl⟩ : ∃ m, k = m + 1 := ⟨k - 1, by omega⟩
    rw [if_neg (by omega)] at hs
    subst hs
    have hw : wrap64 ((i : Int) - 1 + (st : Int) + 1) = (i : Int) + (st : Int) := by rw [wrap_int (by omega)]; omega
    have hwi : wrap64 ((i : Int) - 1) = ((i - 1 : Nat) : Int) := by unfold wrap64; omega
    simp only [millwrightlaw09_LifeFails.l0]
    rw [if_pos (by omega), Start_f k (by omega) _ _ _ _ _ _ (by omega), if_pos (rfl : (1 : Int) = 1), hw, Option.bind_some]
    simp only [if_true]
    rw [hwi]
    obtain ⟨k, rfl⟩ : ∃ m, k = m + 2 := ⟨k - 2, by omega⟩
    -- not stopped
    have hno : ∀ b : Bool, b = false → millwrightlaw09_LifeFails.j1 (k + 2) (n : Int) l true (st : Int) (i : Int) b 2 ((i : Int) + (st : Int)) ((i : Int) - 1) (st : Int) (n : Int) 100 = some true := by
      intro b hb
      simp only [millwrightlaw09_LifeFails.j1]
      rw [if_neg (by rw [hb]; decide)]
      refine missed n hn l k (by omega) i (by omega) (st : Int) _ ?_
      intro s hs
      have := ih k (i + 1) st s (by omega) (by omega) (by omega) (by omega) (by rw [hs]; by_cases c : i = n <;> simp [c])
      have e1 : ((i + 1 : Nat) : Int) - 1 = (i : Int) := by omega
      rw [e1] at this
      exact this
    have hyes : millwrightlaw09_LifeFails.j1 (k + 2) (n : Int) l true (st : Int) (i : Int) true 2 ((i : Int) + (st : Int)) ((i : Int) - 1) (st : Int) (n : Int) 100 = some true := by
      have hws : wrap64 ((st : Int) + 1) = ((st + 1 : Nat) : Int) := by rw [wrap_int (by omega)]; omega
      have hwe : wrap64 ((i : Int) + (st : Int) + 1) = (i : Int) + ((st + 1 : Nat) : Int) := by rw [wrap_int (by omega)]; omega
      simp only [millwrightlaw09_LifeFails.j1]
      rw [if_pos True.intro, Stop_f _ (by omega) _ _ _ _ _ _ (by omega), if_pos (rfl : (2 : Int) = 2), if_neg (show ¬ ((st : Int) ≥ 100) by omega), Option.bind_some, hws]
      simp only [if_true]
      rw [Start_f _ (by omega) _ _ _ _ _ _ (by omega), if_pos (rfl : (1 : Int) = 1), Option.bind_some, hwe]
      simp only [if_true]
      refine missed n hn l k (by omega) i (by omega) ((st + 1 : Nat) : Int) _ ?_
      intro s hs
      have := ih k (i + 1) (st + 1) s (by omega) (by omega) (by omega) (by omega) (by rw [hs]; by_cases c : i = n <;> simp [c])
      have e1 : ((i + 1 : Nat) : Int) - 1 = (i : Int) := by omega
      rw [e1] at this
      exact this
    by_cases c : ((i - 1 : Nat) : Int) < (l.length : Int)
    · rw [if_pos c, if_pos (by omega)]
      cases hb : rdOf false l ((i - 1 : Nat) : Int) with
      | false => exact hno false rfl
      | true => exact hyes
    · rw [if_neg c]
      exact hno false rfl

/-- The plain law. -/
theorem LifeFails (a0 : Int) (l : List Bool) : ∃ k, millwrightlaw09_LifeFails.f k a0 l = some true := by
  refine ⟨400, ?_⟩
  unfold millwrightlaw09_LifeFails.f
  rw [shown_any 400 (by omega), Option.bind_some]
  have hm := masked_mod a0 100 (by omega)
  generalize Int.tmod (Go.bits .and .i64 a0 65535) 100 = t at hm ⊢
  have hw : wrap64 (1 + t) = ((t.toNat + 1 : Nat) : Int) := by unfold wrap64; omega
  have h1 : mx ((t.toNat + 1 : Nat) : Int) 1 = ((t.toNat + 1 : Nat) : Int) := by unfold mx; split <;> omega
  have h2 : mx 100 0 = 100 := by decide
  simp only [life_New.f, Option.bind_some]
  rw [hw, h1, h2, Want_f 400 (by omega) _ _ _ _ _ _ (by omega), if_pos (rfl : (0 : Int) = 0), Option.bind_some]
  simp only [if_true]
  have := loop (t.toNat + 1) (by omega) l (t.toNat + 1) 400 1 0 1 (by omega) (by omega) (by omega) (by omega) (by rw [if_neg (by omega)])
  simpa using this

end Go.Proofs.Ytkldfjlbgmppfaa.Pure
