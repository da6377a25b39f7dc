/- CheckBetween: between two configs that are right all are; tasks likewise. Numbers alone. -/
import Derived.Test.YtkldfjlbgmppfaaMCheckBetweenx2
import Derived.Test.YtkldfjlbgmppfaaCkMCheckBetween
namespace Go.Proofs.Ytkldfjlbgmppfaa.Pure
open Go.RowKit Go.Proofs.Ytkldfjlbgmppfaa.MCheckBetween Go.Proofs.Ytkldfjlbgmppfaa.Plain Go.Proofs.YtkldfjlbgmppfaaW.PrintWords Go.Proofs.YtkldfjlbgmppfaaW.PrintLast Go.Proofs.YtkldfjlbgmppfaaW.PrintMore

/-- Nothing but what it says: a number between two, if these are small. -/
theorem mid_f (a b u : Int) (h0 : 0 ≤ u) (h1 : u ≤ 255) :
    ∃ c, millwrightlaw04_mid.f a b u = some c ∧ ∀ lo hi : Int, 0 ≤ lo → hi ≤ 1048576 → lo ≤ a ∧ a ≤ hi → lo ≤ b ∧ b ≤ hi → lo ≤ c ∧ c ≤ hi := by
  have key : ∀ lo hi : Int, 0 ≤ lo → hi ≤ 1048576 → lo ≤ a ∧ a ≤ hi → lo ≤ b ∧ b ≤ hi →
      lo ≤ (if (wrap64 ((mx a b) - (mn a b))) ≤ 0 then (mn a b) else wrap64 ((mn a b) + (wrap64 ((wrap64 (Int.tdiv (wrap64 ((mx a b) - (mn a b))) 255)) * (wrap64 u))))) ∧
      (if (wrap64 ((mx a b) - (mn a b))) ≤ 0 then (mn a b) else wrap64 ((mn a b) + (wrap64 ((wrap64 (Int.tdiv (wrap64 ((mx a b) - (mn a b))) 255)) * (wrap64 u))))) ≤ hi := by
    intro lo hi hlo hhi ha hb
    have p1 : lo ≤ mn a b ∧ mn a b ≤ hi := by unfold mn; split <;> omega
    have p2 : lo ≤ mx a b ∧ mx a b ≤ hi := by unfold mx; split <;> omega
    have p3 : mn a b ≤ mx a b := by unfold mn mx; split <;> split <;> omega
    generalize mn a b = m at p1 p3 ⊢
    generalize mx a b = x at p2 p3 ⊢
    have e1 : wrap64 (x - m) = x - m := by unfold wrap64; omega
    rw [e1]
    split
    · exact p1
    · have e2 : Int.tdiv (x - m) 255 = (x - m) / 255 := Int.tdiv_eq_ediv_of_nonneg (by omega)
      rw [e2]
      have q0 : 0 ≤ (x - m) / 255 := by omega
      have q1 : (x - m) / 255 * 255 ≤ x - m := by omega
      generalize (x - m) / 255 = d at q0 q1
      have e3 : wrap64 d = d := by unfold wrap64; omega
      have e4 : wrap64 u = u := by unfold wrap64; omega
      rw [e3, e4]
      have r0 : 0 ≤ d * u := Int.mul_nonneg q0 h0
      have r1 : d * u ≤ d * 255 := Int.mul_le_mul_of_nonneg_left h1 q0
      generalize d * u = v at r0 r1
      have e5 : wrap64 v = v := by unfold wrap64; omega
      rw [e5]
      have e6 : wrap64 (m + v) = m + v := by unfold wrap64; omega
      rw [e6]; omega
  unfold millwrightlaw04_mid.f
  by_cases c : (wrap64 ((mx a b) - (mn a b))) ≤ 0
  · simp only [if_pos c] at key ⊢
    exact ⟨_, rfl, key⟩
  · simp only [if_neg c] at key ⊢
    exact ⟨_, rfl, key⟩

theorem u8_range {a : Int} (h : (Go.Lit.int .u8 a).wf = true) : 0 ≤ a ∧ a ≤ 255 := by
  have e1 : Go.IntKind.u8.min = 0 := rfl
  have e2 : Go.IntKind.u8.max = 255 := rfl
  simp [Go.Lit.wf, e1, e2] at h
  omega

theorem err_zero (b : Bool) : err b = 0 ↔ b = true := by cases b <;> simp [err]

theorem task_f2 (k : Nat) (hk : 3 ≤ k) (a b : Int) : check_Task.f k a b = some (err (okTask ⟨a, b⟩)) := task_f k hk ⟨a, b⟩

/-- Between two that are right all are. -/
theorem CheckBetween (a0 a1 a2 a3 a4 a5 a6 a7 a8 a9 b0 b1 b2 b3 b4 b5 b6 b7 b8 b9 s0 s1 t0 t1 u : Int) (h0 : 0 ≤ u) (h1 : u ≤ 255) :
    ∃ k, millwrightlaw04_CheckBetween.f k a0 a1 a2 a3 a4 a5 a6 a7 a8 a9 b0 b1 b2 b3 b4 b5 b6 b7 b8 b9 s0 s1 t0 t1 u = some true := by
  refine ⟨100, ?_⟩
  obtain ⟨c0, e0, m0⟩ := mid_f a0 b0 u h0 h1
  obtain ⟨c1, e1, m1⟩ := mid_f a1 b1 u h0 h1
  obtain ⟨c2, e2, m2⟩ := mid_f a2 b2 u h0 h1
  obtain ⟨c3, e3, m3⟩ := mid_f a3 b3 u h0 h1
  obtain ⟨c4, e4, m4⟩ := mid_f a4 b4 u h0 h1
  obtain ⟨c5, e5, m5⟩ := mid_f a5 b5 u h0 h1
  obtain ⟨c6, e6, m6⟩ := mid_f a6 b6 u h0 h1
  obtain ⟨c7, e7, m7⟩ := mid_f a7 b7 u h0 h1
  obtain ⟨c8, e8, m8⟩ := mid_f a8 b8 u h0 h1
  obtain ⟨c9, e9, m9⟩ := mid_f a9 b9 u h0 h1
  obtain ⟨d0, f0, n0⟩ := mid_f s0 t0 u h0 h1
  obtain ⟨d1, f1, n1⟩ := mid_f s1 t1 u h0 h1
  unfold millwrightlaw04_CheckBetween.f
  rw [shown_any 100 (by omega), e0, e1, e2, e3, e4, e5, e6, e7, e8, e9, f0, f1]
  simp only [Option.bind_some, config_f 100 (by omega)]
  have hj : millwrightlaw04_CheckBetween.j0 100 true false s0 s1 t0 t1 d0 d1 = some true := by
    simp only [millwrightlaw04_CheckBetween.j0]
    rw [if_neg (by decide), if_pos True.intro, task_f2 99 (by omega), task_f2 99 (by omega), task_f2 99 (by omega)]
    simp only [Option.bind_some, err_zero]
    split
    · rename_i q1
      split
      · rename_i q2
        have g1 := (okTask_iff _).1 q1
        have g2 := (okTask_iff _).1 q2
        have : okTask ⟨d0, d1⟩ = true := by
          rw [okTask_iff]
          exact ⟨n0 1 1048576 (by omega) (by omega) g1.1 g2.1, n1 1 1048576 (by omega) (by omega) g1.2 g2.2⟩
        rw [this]; rfl
      · rfl
    · rfl
  simp only [err_zero]
  split
  · rename_i q1
    split
    · rename_i q2
      have g1 := (okConfig_iff _ _ _ _ _ _ _ _ _ _).1 q1
      have g2 := (okConfig_iff _ _ _ _ _ _ _ _ _ _).1 q2
      have : okConfig c0 c1 c2 c3 c4 c5 c6 c7 c8 c9 = true := by
        rw [okConfig_iff]
        obtain ⟨⟨x0, x2, x4, x6, x7, x8, x9⟩, ⟨x3, x5⟩, x1⟩ := g1
        obtain ⟨⟨y0, y2, y4, y6, y7, y8, y9⟩, ⟨y3, y5⟩, y1⟩ := g2
        exact ⟨⟨m0 _ _ (by omega) (by omega) x0 y0, m2 _ _ (by omega) (by omega) x2 y2, m4 _ _ (by omega) (by omega) x4 y4, m6 _ _ (by omega) (by omega) x6 y6, m7 _ _ (by omega) (by omega) x7 y7, m8 _ _ (by omega) (by omega) x8 y8, m9 _ _ (by omega) (by omega) x9 y9⟩, ⟨m3 _ _ (by omega) (by omega) x3 y3, m5 _ _ (by omega) (by omega) x5 y5⟩, m1 _ _ (by omega) (by omega) x1 y1⟩
      rw [this]
      exact hj
    · exact hj
  · exact hj

end Go.Proofs.Ytkldfjlbgmppfaa.Pure
