/- What the plain functions of package life answer, from a state of 0 to 7. Numbers alone. -/
import Derived.Test.YtkldfjlbgmppfaaMLifeFailsx2
namespace Go.Proofs.Ytkldfjlbgmppfaa.MLifeFails
open Go.RowKit Go.Proofs.YtkldfjlbgmppfaaW.PrintWords Go.Proofs.YtkldfjlbgmppfaaW.PrintLast Go.Proofs.YtkldfjlbgmppfaaW.PrintMore

theorem eight {s : Int} (h : 0 ≤ s ∧ s ≤ 7) : s = 0 ∨ s = 1 ∨ s = 2 ∨ s = 3 ∨ s = 4 ∨ s = 5 ∨ s = 6 ∨ s = 7 := by omega

theorem of_0 (k : Nat) (hk : 10 ≤ k) : life_of.f k [0] = some 1 := at_rounds (life_of.mono _) hk (by decide +kernel)
theorem step_0 (s e m p t r q : Int) (h : 0 ≤ s ∧ s ≤ 7) : life_Life_step.f s e m p t r 1 q = some (if s = 0 then (0, q, e, m, p, t, r) else (8, s, e, m, p, t, r)) := by
  rcases eight h with rfl | rfl | rfl | rfl | rfl | rfl | rfl | rfl <;> rfl

theorem of_1 (k : Nat) (hk : 10 ≤ k) : life_of.f k [1] = some 2 := at_rounds (life_of.mono _) hk (by decide +kernel)
theorem step_1 (s e m p t r q : Int) (h : 0 ≤ s ∧ s ≤ 7) : life_Life_step.f s e m p t r 2 q = some (if s = 1 then (0, q, e, m, p, t, r) else (8, s, e, m, p, t, r)) := by
  rcases eight h with rfl | rfl | rfl | rfl | rfl | rfl | rfl | rfl <;> rfl

theorem of_2 (k : Nat) (hk : 10 ≤ k) : life_of.f k [2] = some 4 := at_rounds (life_of.mono _) hk (by decide +kernel)
theorem step_2 (s e m p t r q : Int) (h : 0 ≤ s ∧ s ≤ 7) : life_Life_step.f s e m p t r 4 q = some (if s = 2 then (0, q, e, m, p, t, r) else (8, s, e, m, p, t, r)) := by
  rcases eight h with rfl | rfl | rfl | rfl | rfl | rfl | rfl | rfl <;> rfl

theorem of_4 (k : Nat) (hk : 10 ≤ k) : life_of.f k [4] = some 16 := at_rounds (life_of.mono _) hk (by decide +kernel)
theorem step_4 (s e m p t r q : Int) (h : 0 ≤ s ∧ s ≤ 7) : life_Life_step.f s e m p t r 16 q = some (if s = 4 then (0, q, e, m, p, t, r) else (8, s, e, m, p, t, r)) := by
  rcases eight h with rfl | rfl | rfl | rfl | rfl | rfl | rfl | rfl <;> rfl

theorem Want_f (k : Nat) (hk : 20 ≤ k) (s e m p t r : Int) (h : 0 ≤ s ∧ s ≤ 7) : life_Life_Want.f k s e m p t r = some (if s = 0 then (0, 1, e, m, p, t, r) else (8, s, e, m, p, t, r)) := by
  unfold life_Life_Want.f
  rw [of_0 k (by omega), Option.bind_some, step_0 _ _ _ _ _ _ _ h, Option.bind_some]

theorem Start_f (k : Nat) (hk : 20 ≤ k) (s e m p t r : Int) (h : 0 ≤ s ∧ s ≤ 7) : life_Life_Start.f k s e m p t r = some (if s = 1 then (0, 2, wrap64 (e + 1), m, p, t, r) else (8, s, e, m, p, t, r)) := by
  unfold life_Life_Start.f
  rw [of_1 k (by omega), Option.bind_some, step_1 _ _ _ _ _ _ _ h, Option.bind_some]
  by_cases c : s = 1 <;> simp [c]

theorem Stop_f (k : Nat) (hk : 20 ≤ k) (s e m p t r : Int) (h : 0 ≤ s ∧ s ≤ 7) : life_Life_Stop.f k s e m p t r = some (if s = 2 then (if p ≥ r then (4, s, e, m, p, t, r) else (0, 1, e, m, wrap64 (p + 1), t, r)) else (8, s, e, m, p, t, r)) := by
  obtain ⟨k, rfl⟩ : ∃ m, k = m + 1 := ⟨k - 1, by omega⟩
  unfold life_Life_Stop.f
  simp only [life_Life_Stop.j0]
  simp only [of_2 k (show 10 ≤ k by omega), Option.bind_some, step_2 _ _ _ _ _ _ _ h]
  by_cases c : s = 2
  · by_cases d : p ≥ r
    · simp [c, d]
    · simp [c, d]
  · simp [c]

theorem Miss_f (k : Nat) (hk : 20 ≤ k) (s e m p t r : Int) (h : 0 ≤ s ∧ s ≤ 7) : life_Life_Miss.f k s e m p t r = some (if s = 2 then (0, (if wrap64 (m + 1) ≥ t then 6 else 4), e, wrap64 (m + 1), p, t, r) else (8, s, e, m, p, t, r)) := by
  obtain ⟨k, rfl⟩ : ∃ m, k = m + 1 := ⟨k - 1, by omega⟩
  unfold life_Life_Miss.f
  simp only [life_Life_Miss.j0]
  simp only [of_2 k (show 10 ≤ k by omega), Option.bind_some, step_2 _ _ _ _ _ _ _ h]
  by_cases c : s = 2
  · by_cases d : wrap64 (m + 1) ≥ t
    · simp [c, d]
    · simp [c, d]
  · simp [c]

theorem Rested_f (k : Nat) (hk : 20 ≤ k) (s e m p t r : Int) (h : 0 ≤ s ∧ s ≤ 7) : life_Life_Rested.f k s e m p t r = some (if s = 4 then (0, 1, e, m, p, t, r) else (8, s, e, m, p, t, r)) := by
  unfold life_Life_Rested.f
  rw [of_4 k (by omega), Option.bind_some, step_4 _ _ _ _ _ _ _ h, Option.bind_some]

end Go.Proofs.Ytkldfjlbgmppfaa.MLifeFails
