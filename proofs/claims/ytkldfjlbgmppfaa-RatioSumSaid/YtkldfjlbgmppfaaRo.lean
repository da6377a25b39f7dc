import Derived.Test.YtkldfjlbgmppfaaRt
namespace Go.Proofs.Ytkldfjlbgmppfaa.Fl
open Go.RowKit Go.Proofs.YtkldfjlbgmppfaaW.PrintWords Go.Proofs.YtkldfjlbgmppfaaW.PrintLast Go.Proofs.YtkldfjlbgmppfaaW.PrintMore
set_option linter.unusedVariables false
set_option linter.unusedSimpArgs false
attribute [local go_sem] max2_int min2_int max_two min_two unary_neg_float

theorem sg_three (a b : Int) : sg a b = -1 ∨ sg a b = 0 ∨ sg a b = 1 := by
  unfold sg; split
  · exact .inl rfl
  · split
    · exact .inr (.inr rfl)
    · exact .inr (.inl rfl)
theorem sg_neg (a b : Int) : sg b a = - sg a b := by
  rcases Int.lt_trichotomy a b with c | c | c
  · rw [sg_lt c, sg_gt c]; rfl
  · rw [sg_eq c, sg_eq c.symm]; rfl
  · rw [sg_gt c, sg_lt c]
theorem sg_self (a : Int) : sg a a = 0 := sg_eq rfl
theorem sg_le {a b : Int} : sg a b ≤ 0 ↔ a ≤ b := by
  rcases Int.lt_trichotomy a b with c | c | c
  · rw [sg_lt c]; omega
  · rw [sg_eq c]; omega
  · rw [sg_gt c]; omega
/-- One order: crosswise, over weights above 0. -/
theorem sg_trans {a1 a2 b1 b2 c1 c2 : Int} (ha : 0 < a1) (hb : 0 < b1) (hc : 0 < c1) (h1 : sg (a2 * b1) (b2 * a1) ≤ 0) (h2 : sg (b2 * c1) (c2 * b1) ≤ 0) : sg (a2 * c1) (c2 * a1) ≤ 0 := by
  rw [sg_le] at *
  have e1 := Int.mul_le_mul_of_nonneg_right h1 (Int.le_of_lt hc)
  have e2 := Int.mul_le_mul_of_nonneg_right h2 (Int.le_of_lt ha)
  have e3 : (a2 * c1) * b1 ≤ (c2 * a1) * b1 := by
    have f1 : a2 * c1 * b1 = a2 * b1 * c1 := by rw [Int.mul_assoc, Int.mul_comm c1 b1, ← Int.mul_assoc]
    have f2 : c2 * a1 * b1 = c2 * b1 * a1 := by rw [Int.mul_assoc, Int.mul_comm a1 b1, ← Int.mul_assoc]
    have f3 : b2 * a1 * c1 = b2 * c1 * a1 := by rw [Int.mul_assoc, Int.mul_comm a1 c1, ← Int.mul_assoc]
    rw [f1, f2]; omega
  exact Int.le_of_mul_le_mul_right e3 hb

set_option maxHeartbeats 8000000 in
set_option maxRecDepth 100000 in
theorem Order_calls (p1 p2 q1 q2 s1 s2 : Int) (w : World) : Calls Try.prog 9 #[.agg #[.int .i64 p1, .int .i64 p2], .agg #[.int .i64 q1, .int .i64 q2], .agg #[.int .i64 s1, .int .i64 s2]] w fun e w' => e = .returned (.bool true) ∧ Below w.heap.size w w' := by
  have r1 := cut1_range p1
  have r2 := cut_range p2
  have r3 := cut1_range q1
  have r4 := cut_range q2
  have r5 := cut1_range s1
  have r6 := cut_range s2
  obtain ⟨X, hX⟩ : ∃ X, sg (cut p2 * cut1 q1) (cut q2 * cut1 p1) = X := ⟨_, rfl⟩
  obtain ⟨Y, hY⟩ : ∃ X, sg (cut q2 * cut1 s1) (cut s2 * cut1 q1) = X := ⟨_, rfl⟩
  obtain ⟨Z, hZ⟩ : ∃ X, sg (cut p2 * cut1 s1) (cut s2 * cut1 p1) = X := ⟨_, rfl⟩
  have hXn : sg (cut q2 * cut1 p1) (cut p2 * cut1 q1) = -X := by rw [sg_neg, hX]
  have hS := sg_self (cut p2 * cut1 p1)
  have t1 : X ≤ 0 → Y ≤ 0 → Z ≤ 0 := by rw [← hX, ← hY, ← hZ]; exact sg_trans (by omega) (by omega) (by omega)
  have t2 : 0 ≤ X → 0 ≤ Y → 0 ≤ Z := by
    intro g1 g2
    have := @sg_trans (cut1 s1) (cut s2) (cut1 q1) (cut q2) (cut1 p1) (cut p2) (by omega) (by omega) (by omega) (by rw [sg_neg, hY]; omega) (by rw [sg_neg, hX]; omega)
    rw [sg_neg, hZ] at this; omega
  have x3 : X = -1 ∨ X = 0 ∨ X = 1 := by rw [← hX]; exact sg_three _ _
  have y3 : Y = -1 ∨ Y = 0 ∨ Y = 1 := by rw [← hY]; exact sg_three _ _
  have z3 : Z = -1 ∨ Z = 0 ∨ Z = 1 := by rw [← hZ]; exact sg_three _ _
  go_enter Try.func9, Try.ntmps9
  go_upto_region 8 with (first
    | (go_at_call 22; (with_reducible refine (shown_calls _).mono ?_); rintro e w1 ⟨rfl, hb1⟩
       have BP : w1.heap[w.heap.size]? = some (.cells #[.int .i64 p1, .int .i64 p2] 49 (0, 0)) := blk_below (blk_alloc (blk_alloc (alloc_new rfl) _) _) hb1
       have BQ : w1.heap[w.heap.size + 1]? = some (.cells #[.int .i64 q1, .int .i64 q2] 49 (0, 0)) := blk_below (blk_alloc (alloc_new (by simp)) _) hb1
       have BR : w1.heap[w.heap.size + 1 + 1]? = some (.cells #[.int .i64 s1, .int .i64 s2] 49 (0, 0)) := blk_below (alloc_new (by simp)) hb1
       have HB1 : Below w.heap.size w w1 := below_step (below_alloc (below_alloc (below_alloc (Below.refl _ _) _) _) _) hb1
       have c1 := cell20 BP
       have c2 := cell21 BP)
    | (go_at_call 23; (with_reducible refine (share_calls p1 p2 _).mono ?_); rintro e w2 ⟨rfl, hb2⟩
       have BQ2 := blk_below BQ hb2
       have BR2 := blk_below BR hb2
       have HB2 : Below w.heap.size w w2 := below_step HB1 hb2
       have c3a := cell20 (blk_alloc BQ2 (.cells #[.int .i64 (cut1 p1), .int .i64 (cut p2)] 51))
       have c4a := cell21 (blk_alloc BQ2 (.cells #[.int .i64 (cut1 p1), .int .i64 (cut p2)] 51)))
    | (go_at_call 23; (with_reducible refine (share_calls q1 q2 _).mono ?_); rintro e w3 ⟨rfl, hb3⟩
       have BR3 := blk_below (blk_alloc BR2 _) hb3
       have HB3 : Below w.heap.size w w3 := below_step (below_alloc HB2 _) hb3
       have c5 := cell20 (blk_alloc BR3 (.cells #[.int .i64 (cut1 q1), .int .i64 (cut q2)] 51))
       have c6 := cell21 (blk_alloc BR3 (.cells #[.int .i64 (cut1 q1), .int .i64 (cut q2)] 51)))
    | (go_at_call 23; (with_reducible refine (share_calls s1 s2 _).mono ?_); rintro e w4 ⟨rfl, hb4⟩
       have HB4 : Below w.heap.size w w4 := below_step (below_alloc HB3 _) hb4)
    | (go_at_call 28; (with_reducible refine (CompareW_calls _ _ _ _ _ ?h1 ?h2 ?h3 ?h4).mono ?_); (case h1 => omega); (case h2 => omega); (case h3 => omega); (case h4 => omega); rintro e w1 ⟨rfl, ⟨n1, rfl⟩⟩; simp only [hX, hY, hZ, hXn, hS]))
  clear BP BQ BR BQ2 BR2 BR3 c1 c2 c3a c4a c5 c6 hb1 hb2 hb3 hb4 HB1 HB2 HB3
  rcases x3 with rfl | rfl | rfl <;> rcases y3 with rfl | rfl | rfl <;> rcases z3 with rfl | rfl | rfl
  all_goals first
    | (exfalso; omega)
    | (go_wp2_with (go_at_call 28; (with_reducible refine (CompareW_calls _ _ _ _ _ ?h1 ?h2 ?h3 ?h4).mono ?_); (case h1 => omega); (case h2 => omega); (case h3 => omega); (case h4 => omega); rintro e w1 ⟨rfl, ⟨n1, rfl⟩⟩; simp only [hX, hY, hZ, hXn, hS])
       go_ret
       exact ⟨by simp, by repeat (first | exact HB4 | apply below_alloc | apply pw_below_drewN | apply below_drew1)⟩)
end Go.Proofs.Ytkldfjlbgmppfaa.Fl
