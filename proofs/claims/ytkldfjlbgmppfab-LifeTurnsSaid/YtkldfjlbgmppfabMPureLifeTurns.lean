/- LifeTurns: whatever is not final may become Cyclic, and nothing that is final; then all is refused. No condition. -/
import Derived.Test.YtkldfjlbgmppfabMLifeTurnsx3
import Derived.Test.YtkldfjlbgmppfabLfLifeTurns
import Derived.Test.YtkldfjlbgmppfabPlain
namespace Go.Proofs.Ytkldfjlbgmppfab.Pure
open Go.RowKit Go.Proofs.Ytkldfjlbgmppfab.MLifeTurns Go.Proofs.Ytkldfjlbgmppfab.Plain Go.Proofs.YtkldfjlbgmppfabW.PrintWords Go.Proofs.YtkldfjlbgmppfabW.PrintLast Go.Proofs.YtkldfjlbgmppfabW.PrintMore

theorem shown_any (k : Nat) (hk : 90 ≤ k) : millwrightlaw09_shown.f k = some true := at_rounds millwrightlaw09_shown.mono hk (by decide +kernel)

/-- Of what is Cyclic all steps are refused. -/
theorem refused : ∀ (d k i : Nat) (e m p t r : Int), i + d = 11 → d + 25 ≤ k → millwrightlaw09_LifeTurns.l1 k true (i : Int) 7 e m p t r = some true := by
  intro d
  induction d with
  | zero =>
    intro k i e m p t r hi hk
    obtain ⟨k, rfl⟩ : ∃ m, k = m + 1 := ⟨k - 1, by omega⟩
    simp only [millwrightlaw09_LifeTurns.l1]
    rw [if_neg (by omega)]
    simp [life_Life_Final.f]
  | succ d ih =>
    intro k i e m p t r hi hk
    obtain ⟨k, rfl⟩ : ∃ m, k = m + 1 := ⟨k - 1, by omega⟩
    simp only [millwrightlaw09_LifeTurns.l1]
    rw [if_pos (by omega), does_f k (by omega) _ _ _ _ _ _ _ (by omega), act_final, Option.bind_some, wrap_next (show i < 11 by omega) (by omega)]
    simp only [if_true, life_Life_State.f, Option.bind_some]
    exact ih k (i + 1) e m p t r (by omega) (by omega)

theorem ends (k : Nat) (hk : 60 ≤ k) (s e m p t r : Int) (h : 0 ≤ s ∧ s ≤ 7) : millwrightlaw09_LifeTurns.j1 k true s e m p t r = some true := by
  obtain ⟨k, rfl⟩ : ∃ m, k = m + 2 := ⟨k - 2, by omega⟩
  simp only [millwrightlaw09_LifeTurns.j1, life_Life_Final.f, life_Life_State.f, Option.bind_some]
  rw [Turn_f _ (by omega) _ _ _ _ _ _ h, Option.bind_some]
  by_cases c : s ≥ 5
  · have : ¬ (s = 0 ∨ s = 1 ∨ s = 2 ∨ s = 3 ∨ s = 4) := by omega
    simp [c, this]
  · have h1 : (s = 0 ∨ s = 1 ∨ s = 2 ∨ s = 3 ∨ s = 4) := by omega
    rw [if_neg (by simpa using c), if_pos h1]
    simp only [if_true]
    simp only [millwrightlaw09_LifeTurns.j2]
    rw [if_neg (by decide)]
    exact refused 11 k 0 e m p t r (by omega) (by omega)

theorem loop (l : List Int) : ∀ (d k i : Nat) (s e m p t r : Int), (0 ≤ s ∧ s ≤ 7) → i + d = 100 → d + 70 ≤ k → i ≤ l.length → millwrightlaw09_LifeTurns.l0 k l true (i : Int) s e m p t r = some true := by
  intro d
  induction d with
  | zero =>
    intro k i s e m p t r h hi hk hil
    obtain ⟨k, rfl⟩ : ∃ m, k = m + 1 := ⟨k - 1, by omega⟩
    simp only [millwrightlaw09_LifeTurns.l0]
    by_cases c : (i : Int) < (l.length : Int)
    · rw [if_pos c, if_neg (by omega)]
      exact ends k (by omega) s e m p t r h
    · rw [if_neg c]
      exact ends k (by omega) s e m p t r h
  | succ d ih =>
    intro k i s e m p t r h hi hk hil
    obtain ⟨k, rfl⟩ : ∃ m, k = m + 1 := ⟨k - 1, by omega⟩
    simp only [millwrightlaw09_LifeTurns.l0]
    by_cases c : (i : Int) < (l.length : Int)
    · rw [if_pos c, if_pos (by omega), if_pos (by omega), does_f k (by omega) _ _ _ _ _ _ _ h, Option.bind_some, wrap_next (show i < 100 by omega) (by omega)]
      exact ih k (i + 1) _ _ _ _ _ _ (act_range _ s e m p t r h) (by omega) (by omega) (by omega)
    · rw [if_neg c]
      exact ends k (by omega) s e m p t r h

/-- Whatever is not final may become Cyclic, and nothing that is final. -/
theorem LifeTurns : millwrightlaw09_LifeTurns.Pure := by
  intro a0 a1 l _ _ _ _ _
  refine ⟨300, ?_⟩
  unfold millwrightlaw09_LifeTurns.f
  rw [shown_any 300 (by omega), Option.bind_some]
  simp only [life_New.f, Option.bind_some]
  exact loop l 100 300 0 _ _ _ _ _ _ (by omega) (by omega) (by omega) (by omega)

end Go.Proofs.Ytkldfjlbgmppfab.Pure
