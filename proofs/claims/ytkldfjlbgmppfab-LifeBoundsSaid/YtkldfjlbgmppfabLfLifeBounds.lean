/- What the plain functions of package life answer, from a state of 0 to 7. Numbers alone. -/
import Derived.Test.YtkldfjlbgmppfabMLifeBoundsx4
namespace Go.Proofs.Ytkldfjlbgmppfab.MLifeBounds
open Go.RowKit Go.Proofs.YtkldfjlbgmppfabW.PrintWords Go.Proofs.YtkldfjlbgmppfabW.PrintLast Go.Proofs.YtkldfjlbgmppfabW.PrintMore

theorem eight {s : Int} (h : 0 ≤ s ∧ s ≤ 7) : s = 0 ∨ s = 1 ∨ s = 2 ∨ s = 3 ∨ s = 4 ∨ s = 5 ∨ s = 6 ∨ s = 7 := by omega

theorem of_0 (k : Nat) (hk : 10 ≤ k) : life_of.f k [0] = some 1 := at_rounds (life_of.mono _) hk (by decide +kernel)
theorem step_0 (s e m p t r q : Int) (h : 0 ≤ s ∧ s ≤ 7) : life_Life_step.f s e m p t r 1 q = some (if s = 0 then (0, q, e, m, p, t, r) else (8, s, e, m, p, t, r)) := by
  rcases eight h with rfl | rfl | rfl | rfl | rfl | rfl | rfl | rfl <;> rfl

theorem of_1 (k : Nat) (hk : 10 ≤ k) : life_of.f k [1] = some 2 := at_rounds (life_of.mono _) hk (by decide +kernel)
theorem step_1 (s e m p t r q : Int) (h : 0 ≤ s ∧ s ≤ 7) : life_Life_step.f s e m p t r 2 q = some (if s = 1 then (0, q, e, m, p, t, r) else (8, s, e, m, p, t, r)) := by
  rcases eight h with rfl | rfl | rfl | rfl | rfl | rfl | rfl | rfl <;> rfl

theorem of_2 (k : Nat) (hk : 10 ≤ k) : life_of.f k [2] = some 4 := at_rounds (life_of.mono _) hk (by decide +kernel)
theorem step_2 (s e m p t r q : Int) (h : 0 ≤ s ∧ s ≤ 7) : life_Life_step.f s e m p t r 4 q = some (if s = 2 then (0, q, e, m, p, t, r) else (8, s, e, m, p, t, r)) := by
  rcases eight h with rfl | rfl | rfl | rfl | rfl | rfl | rfl | rfl <;> rfl

theorem of_3 (k : Nat) (hk : 10 ≤ k) : life_of.f k [3] = some 8 := at_rounds (life_of.mono _) hk (by decide +kernel)
theorem step_3 (s e m p t r q : Int) (h : 0 ≤ s ∧ s ≤ 7) : life_Life_step.f s e m p t r 8 q = some (if s = 3 then (0, q, e, m, p, t, r) else (8, s, e, m, p, t, r)) := by
  rcases eight h with rfl | rfl | rfl | rfl | rfl | rfl | rfl | rfl <;> rfl

theorem of_4 (k : Nat) (hk : 10 ≤ k) : life_of.f k [4] = some 16 := at_rounds (life_of.mono _) hk (by decide +kernel)
theorem step_4 (s e m p t r q : Int) (h : 0 ≤ s ∧ s ≤ 7) : life_Life_step.f s e m p t r 16 q = some (if s = 4 then (0, q, e, m, p, t, r) else (8, s, e, m, p, t, r)) := by
  rcases eight h with rfl | rfl | rfl | rfl | rfl | rfl | rfl | rfl <;> rfl

theorem of_30 (k : Nat) (hk : 10 ≤ k) : life_of.f k [3, 0] = some 9 := at_rounds (life_of.mono _) hk (by decide +kernel)
theorem step_30 (s e m p t r q : Int) (h : 0 ≤ s ∧ s ≤ 7) : life_Life_step.f s e m p t r 9 q = some (if s = 3 ∨ s = 0 then (0, q, e, m, p, t, r) else (8, s, e, m, p, t, r)) := by
  rcases eight h with rfl | rfl | rfl | rfl | rfl | rfl | rfl | rfl <;> rfl

theorem of_01234 (k : Nat) (hk : 10 ≤ k) : life_of.f k [0, 1, 2, 3, 4] = some 31 := at_rounds (life_of.mono _) hk (by decide +kernel)
theorem step_01234 (s e m p t r q : Int) (h : 0 ≤ s ∧ s ≤ 7) : life_Life_step.f s e m p t r 31 q = some (if s = 0 ∨ s = 1 ∨ s = 2 ∨ s = 3 ∨ s = 4 then (0, q, e, m, p, t, r) else (8, s, e, m, p, t, r)) := by
  rcases eight h with rfl | rfl | rfl | rfl | rfl | rfl | rfl | rfl <;> rfl

theorem Want_f (k : Nat) (hk : 20 ≤ k) (s e m p t r : Int) (h : 0 ≤ s ∧ s ≤ 7) : life_Life_Want.f k s e m p t r = some (if s = 0 then (0, 1, e, m, p, t, r) else (8, s, e, m, p, t, r)) := by
  unfold life_Life_Want.f
  rw [of_0 k (by omega), Option.bind_some, step_0 _ _ _ _ _ _ _ h, Option.bind_some]

theorem Start_f (k : Nat) (hk : 20 ≤ k) (s e m p t r : Int) (h : 0 ≤ s ∧ s ≤ 7) : life_Life_Start.f k s e m p t r = some (if s = 1 then (0, 2, wrap64 (e + 1), m, p, t, r) else (8, s, e, m, p, t, r)) := by
  unfold life_Life_Start.f
  rw [of_1 k (by omega), Option.bind_some, step_1 _ _ _ _ _ _ _ h, Option.bind_some]
  by_cases c : s = 1 <;> simp [c]

theorem Stop_f (k : Nat) (hk : 20 ≤ k) (s e m p t r : Int) (h : 0 ≤ s ∧ s ≤ 7) : life_Life_Stop.f k s e m p t r = some (if s = 2 then (if p ≥ r then (4, s, e, m, p, t, r) else (0, 1, e, m, wrap64 (p + 1), t, r)) else (8, s, e, m, p, t, r)) := by
  obtain ⟨k, rfl⟩ : ∃ m, k = m + 1 := ⟨k - 1, by omega⟩
  unfold life_Life_Stop.f
  simp only [life_Life_Stop.j0]
  simp only [of_2 k (show 10 ≤ k by omega), Option.bind_some, step_2 _ _ _ _ _ _ _ h]
  by_cases c : s = 2
  · by_cases d : p ≥ r
    · simp [c, d]
    · simp [c, d]
  · simp [c]

theorem Wait_f (k : Nat) (hk : 20 ≤ k) (s e m p t r : Int) (h : 0 ≤ s ∧ s ≤ 7) : life_Life_Wait.f k s e m p t r = some (if s = 2 then (0, 3, e, m, p, t, r) else (8, s, e, m, p, t, r)) := by
  unfold life_Life_Wait.f
  rw [of_2 k (by omega), Option.bind_some, step_2 _ _ _ _ _ _ _ h, Option.bind_some]

theorem Again_f (k : Nat) (hk : 20 ≤ k) (s e m p t r : Int) (h : 0 ≤ s ∧ s ≤ 7) : life_Life_Again.f k s e m p t r = some (if s = 2 then (0, 1, e, m, p, t, r) else (8, s, e, m, p, t, r)) := by
  unfold life_Life_Again.f
  rw [of_2 k (by omega), Option.bind_some, step_2 _ _ _ _ _ _ _ h, Option.bind_some]

theorem Wake_f (k : Nat) (hk : 20 ≤ k) (s e m p t r : Int) (h : 0 ≤ s ∧ s ≤ 7) : life_Life_Wake.f k s e m p t r = some (if s = 3 then (0, 1, e, m, p, t, r) else (8, s, e, m, p, t, r)) := by
  unfold life_Life_Wake.f
  rw [of_3 k (by omega), Option.bind_some, step_3 _ _ _ _ _ _ _ h, Option.bind_some]

theorem Miss_f (k : Nat) (hk : 20 ≤ k) (s e m p t r : Int) (h : 0 ≤ s ∧ s ≤ 7) : life_Life_Miss.f k s e m p t r = some (if s = 2 then (0, (if wrap64 (m + 1) ≥ t then 6 else 4), e, wrap64 (m + 1), p, t, r) else (8, s, e, m, p, t, r)) := by
  obtain ⟨k, rfl⟩ : ∃ m, k = m + 1 := ⟨k - 1, by omega⟩
  unfold life_Life_Miss.f
  simp only [life_Life_Miss.j0]
  simp only [of_2 k (show 10 ≤ k by omega), Option.bind_some, step_2 _ _ _ _ _ _ _ h]
  by_cases c : s = 2
  · by_cases d : wrap64 (m + 1) ≥ t
    · simp [c, d]
    · simp [c, d]
  · simp [c]

theorem Rested_f (k : Nat) (hk : 20 ≤ k) (s e m p t r : Int) (h : 0 ≤ s ∧ s ≤ 7) : life_Life_Rested.f k s e m p t r = some (if s = 4 then (0, 1, e, m, p, t, r) else (8, s, e, m, p, t, r)) := by
  unfold life_Life_Rested.f
  rw [of_4 k (by omega), Option.bind_some, step_4 _ _ _ _ _ _ _ h, Option.bind_some]

theorem End_f (k : Nat) (hk : 20 ≤ k) (s e m p t r : Int) (h : 0 ≤ s ∧ s ≤ 7) : life_Life_End.f k s e m p t r = some (if s = 2 then (0, 5, e, m, p, t, r) else (8, s, e, m, p, t, r)) := by
  unfold life_Life_End.f
  rw [of_2 k (by omega), Option.bind_some, step_2 _ _ _ _ _ _ _ h, Option.bind_some]

theorem Fall_f (k : Nat) (hk : 20 ≤ k) (s e m p t r : Int) (h : 0 ≤ s ∧ s ≤ 7) : life_Life_Fall.f k s e m p t r = some (if s = 3 ∨ s = 0 then (0, 6, e, m, p, t, r) else (8, s, e, m, p, t, r)) := by
  unfold life_Life_Fall.f
  rw [of_30 k (by omega), Option.bind_some, step_30 _ _ _ _ _ _ _ h, Option.bind_some]

theorem Turn_f (k : Nat) (hk : 20 ≤ k) (s e m p t r : Int) (h : 0 ≤ s ∧ s ≤ 7) : life_Life_Turn.f k s e m p t r = some (if s = 0 ∨ s = 1 ∨ s = 2 ∨ s = 3 ∨ s = 4 then (0, 7, e, m, p, t, r) else (8, s, e, m, p, t, r)) := by
  unfold life_Life_Turn.f
  rw [of_01234 k (by omega), Option.bind_some, step_01234 _ _ _ _ _ _ _ h, Option.bind_some]

/-- A step's outcome: its error, and what has become of the life. -/
def act (a s e m p t r : Int) : Int × Int × Int × Int × Int × Int × Int :=
  if a = 0 then (if s = 0 then (0, 1, e, m, p, t, r) else (8, s, e, m, p, t, r)) else if a = 1 then (if s = 1 then (0, 2, wrap64 (e + 1), m, p, t, r) else (8, s, e, m, p, t, r)) else if a = 2 then (if s = 2 then (if p ≥ r then (4, s, e, m, p, t, r) else (0, 1, e, m, wrap64 (p + 1), t, r)) else (8, s, e, m, p, t, r)) else if a = 3 then (if s = 2 then (0, 3, e, m, p, t, r) else (8, s, e, m, p, t, r)) else if a = 4 then (if s = 2 then (0, 1, e, m, p, t, r) else (8, s, e, m, p, t, r)) else if a = 5 then (if s = 3 then (0, 1, e, m, p, t, r) else (8, s, e, m, p, t, r)) else if a = 6 then (if s = 2 then (0, (if wrap64 (m + 1) ≥ t then 6 else 4), e, wrap64 (m + 1), p, t, r) else (8, s, e, m, p, t, r)) else if a = 7 then (if s = 4 then (0, 1, e, m, p, t, r) else (8, s, e, m, p, t, r)) else if a = 8 then (if s = 2 then (0, 5, e, m, p, t, r) else (8, s, e, m, p, t, r)) else if a = 9 then (if s = 3 ∨ s = 0 then (0, 6, e, m, p, t, r) else (8, s, e, m, p, t, r)) else (if s = 0 ∨ s = 1 ∨ s = 2 ∨ s = 3 ∨ s = 4 then (0, 7, e, m, p, t, r) else (8, s, e, m, p, t, r))

theorem does_f (k : Nat) (hk : 20 ≤ k) (a s e m p t r : Int) (h : 0 ≤ s ∧ s ≤ 7) : millwrightlaw09_does.f k s e m p t r a = some (act a s e m p t r) := by
  unfold millwrightlaw09_does.f act
  by_cases c0 : a = 0
  · rw [if_pos c0, if_pos c0, Want_f k hk _ _ _ _ _ _ h, Option.bind_some]
  rw [if_neg c0, if_neg c0]
  by_cases c1 : a = 1
  · rw [if_pos c1, if_pos c1, Start_f k hk _ _ _ _ _ _ h, Option.bind_some]
  rw [if_neg c1, if_neg c1]
  by_cases c2 : a = 2
  · rw [if_pos c2, if_pos c2, Stop_f k hk _ _ _ _ _ _ h, Option.bind_some]
  rw [if_neg c2, if_neg c2]
  by_cases c3 : a = 3
  · rw [if_pos c3, if_pos c3, Wait_f k hk _ _ _ _ _ _ h, Option.bind_some]
  rw [if_neg c3, if_neg c3]
  by_cases c4 : a = 4
  · rw [if_pos c4, if_pos c4, Again_f k hk _ _ _ _ _ _ h, Option.bind_some]
  rw [if_neg c4, if_neg c4]
  by_cases c5 : a = 5
  · rw [if_pos c5, if_pos c5, Wake_f k hk _ _ _ _ _ _ h, Option.bind_some]
  rw [if_neg c5, if_neg c5]
  by_cases c6 : a = 6
  · rw [if_pos c6, if_pos c6, Miss_f k hk _ _ _ _ _ _ h, Option.bind_some]
  rw [if_neg c6, if_neg c6]
  by_cases c7 : a = 7
  · rw [if_pos c7, if_pos c7, Rested_f k hk _ _ _ _ _ _ h, Option.bind_some]
  rw [if_neg c7, if_neg c7]
  by_cases c8 : a = 8
  · rw [if_pos c8, if_pos c8, End_f k hk _ _ _ _ _ _ h, Option.bind_some]
  rw [if_neg c8, if_neg c8]
  by_cases c9 : a = 9
  · rw [if_pos c9, if_pos c9, Fall_f k hk _ _ _ _ _ _ h, Option.bind_some]
  rw [if_neg c9, if_neg c9]
  rw [Turn_f k hk _ _ _ _ _ _ h, Option.bind_some]

/-- The state that is told lies from 0 to 7. -/
def InSt (x : Int × Int × Int × Int × Int × Int × Int) : Prop := 0 ≤ x.2.1 ∧ x.2.1 ≤ 7
theorem InSt.ite {c : Prop} [Decidable c] {x y : Int × Int × Int × Int × Int × Int × Int} (h : InSt x) (g : InSt y) : InSt (if c then x else y) := by split <;> assumption
theorem InSt.mk {a s e m p t r : Int} (h : 0 ≤ s ∧ s ≤ 7) : InSt (a, s, e, m, p, t, r) := h

theorem act_range (a s e m p t r : Int) (h : 0 ≤ s ∧ s ≤ 7) : InSt (act a s e m p t r) := by
  unfold act
  repeat' (refine InSt.ite ?_ ?_)
  all_goals first | exact InSt.mk (by omega) | exact InSt.mk (by split <;> omega)

theorem act_final (a e m p t r : Int) : act a 7 e m p t r = (8, 7, e, m, p, t, r) := by
  unfold act
  repeat' split
  all_goals first | rfl | (simp at *; done) | omega

end Go.Proofs.Ytkldfjlbgmppfab.MLifeBounds
