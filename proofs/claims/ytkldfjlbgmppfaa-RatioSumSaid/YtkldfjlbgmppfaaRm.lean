import Derived.Test.YtkldfjlbgmppfaaRo
import Derived.Test.YtkldfjlbgmppfaaPlain
namespace Go.Proofs.Ytkldfjlbgmppfaa.Fl
open Go.RowKit Go.Proofs.YtkldfjlbgmppfaaW.PrintWords Go.Proofs.YtkldfjlbgmppfaaW.PrintLast Go.Proofs.YtkldfjlbgmppfaaW.PrintMore
set_option linter.unusedVariables false
set_option linter.unusedSimpArgs false
attribute [local go_sem] max2_int min2_int max_two min_two unary_neg_float

set_option maxHeartbeats 8000000 in
set_option maxRecDepth 100000 in
theorem Sum_law (p1 p2 q1 q2 : Int) (w : World) : Calls Try.prog 10 #[.agg #[.int .i64 p1, .int .i64 p2], .agg #[.int .i64 q1, .int .i64 q2]] w fun e w' => e = .returned (.bool true) ∧ Below w.heap.size w w' := by
  have mask : ∀ a : Int, bits .and .i64 a 8388607 = a % 8388608 := fun a => Plain.and_mask a 23 (by omega)
  obtain ⟨m1, hm1⟩ : ∃ m, bits .and .i64 p1 8388607 = m := ⟨_, rfl⟩
  obtain ⟨m2, hm2⟩ : ∃ m, bits .and .i64 p2 8388607 = m := ⟨_, rfl⟩
  obtain ⟨m3, hm3⟩ : ∃ m, bits .and .i64 q1 8388607 = m := ⟨_, rfl⟩
  obtain ⟨m4, hm4⟩ : ∃ m, bits .and .i64 q2 8388607 = m := ⟨_, rfl⟩
  have g1 : 0 ≤ m1 ∧ m1 ≤ 8388607 := by rw [← hm1, mask]; omega
  have g2 : 0 ≤ m2 ∧ m2 ≤ 8388607 := by rw [← hm2, mask]; omega
  have g3 : 0 ≤ m3 ∧ m3 ≤ 8388607 := by rw [← hm3, mask]; omega
  have g4 : 0 ≤ m4 ∧ m4 ≤ 8388607 := by rw [← hm4, mask]; omega
  clear mask
  go_enter Try.func10, Try.ntmps10
  go_upto_region 4 with (first
    | (go_at_call 22; (with_reducible refine (shown_calls _).mono ?_); rintro e w1 ⟨rfl, hb1⟩
       have BP : w1.heap[w.heap.size]? = some (.cells #[.int .i64 p1, .int .i64 p2] 49 (0, 0)) := blk_below (blk_alloc (alloc_new rfl) _) hb1
       have BQ : w1.heap[w.heap.size + 1]? = some (.cells #[.int .i64 q1, .int .i64 q2] 49 (0, 0)) := blk_below (alloc_new (by simp)) hb1
       have HB1 : Below w.heap.size w w1 := below_step (below_alloc (below_alloc (Below.refl _ _) _) _) hb1
       have c1 := cell20 BP
       have c2 := cell21 BP
       have c3 := cell20 BQ
       have c4 := cell21 BQ
       have f1 := blk_frozen BP 0
       have f2 := blk_frozen BP 1
       have f3 := blk_frozen BQ 0
       have f4 := blk_frozen BQ 1))
  have hne : w.heap.size ≠ w.heap.size + 1 := by omega
  have BP1 : ((((w1.setCell ⟨w.heap.size, 0, none⟩ (.int .i64 m1)).setCell ⟨w.heap.size, 1, none⟩ (.int .i64 m2)).setCell ⟨w.heap.size + 1, 0, none⟩ (.int .i64 m3)).setCell ⟨w.heap.size + 1, 1, none⟩ (.int .i64 m4)).heap[w.heap.size]? = some (.cells #[.int .i64 m1, .int .i64 m2] 49 (0, 0)) := by
    refine blk_far ?_ hne _
    refine blk_far ?_ hne _
    refine blk_put (cs := #[.int .i64 m1, .int .i64 p2]) ?_ 1 _ rfl
    exact blk_put (cs := #[.int .i64 p1, .int .i64 p2]) BP 0 _ rfl
  have BQ1 : ((((w1.setCell ⟨w.heap.size, 0, none⟩ (.int .i64 m1)).setCell ⟨w.heap.size, 1, none⟩ (.int .i64 m2)).setCell ⟨w.heap.size + 1, 0, none⟩ (.int .i64 m3)).setCell ⟨w.heap.size + 1, 1, none⟩ (.int .i64 m4)).heap[w.heap.size + 1]? = some (.cells #[.int .i64 m3, .int .i64 m4] 49 (0, 0)) := by
    refine blk_put (cs := #[.int .i64 m3, .int .i64 q2]) ?_ 1 _ rfl
    refine blk_put (cs := #[.int .i64 q1, .int .i64 q2]) ?_ 0 _ rfl
    exact blk_far (blk_far BQ hne.symm _) hne.symm _
  have HB5 : Below w.heap.size w ((((w1.setCell ⟨w.heap.size, 0, none⟩ (.int .i64 m1)).setCell ⟨w.heap.size, 1, none⟩ (.int .i64 m2)).setCell ⟨w.heap.size + 1, 0, none⟩ (.int .i64 m3)).setCell ⟨w.heap.size + 1, 1, none⟩ (.int .i64 m4)) :=
    below_set (below_set (below_set (below_set HB1 (Nat.le_refl _)) (Nat.le_refl _)) (Nat.le_succ _)) (Nat.le_succ _)
  clear BP BQ HB1 c1 c2 c3 c4 f1 f2 f3 f4 hb1
  generalize ((((w1.setCell ⟨w.heap.size, 0, none⟩ (.int .i64 m1)).setCell ⟨w.heap.size, 1, none⟩ (.int .i64 m2)).setCell ⟨w.heap.size + 1, 0, none⟩ (.int .i64 m3)).setCell ⟨w.heap.size + 1, 1, none⟩ (.int .i64 m4)) = w5 at BP1 BQ1 HB5 ⊢
  have c1 := cell20 BP1
  have c2 := cell21 BP1
  have gA1 := cut1_range m1
  have gB1 := cut1_range m3
  have lA1 : cut1 m1 ≤ 8388607 := by unfold cut1; rw [cut_id g1.1 (by omega)]; split <;> omega
  have lB1 : cut1 m3 ≤ 8388607 := by unfold cut1; rw [cut_id g3.1 (by omega)]; split <;> omega
  have eA2 : cut m2 = m2 := cut_id g2.1 (by omega)
  have eB2 : cut m4 = m4 := cut_id g4.1 (by omega)
  go_upto_region 7 with (first
    | (go_at_call 23; (with_reducible refine (share_calls m1 m2 _).mono ?_); rintro e w2 ⟨rfl, hb2⟩
       have BQ2 := blk_below BQ1 hb2
       have HB2 : Below w.heap.size w w2 := below_step HB5 hb2
       have c3a := cell20 (blk_alloc BQ2 (.cells #[.int .i64 (cut1 m1), .int .i64 (cut m2)] 51))
       have c4a := cell21 (blk_alloc BQ2 (.cells #[.int .i64 (cut1 m1), .int .i64 (cut m2)] 51))
       simp only [eA2] at c3a c4a ⊢)
    | (go_at_call 23; (with_reducible refine (share_calls m3 m4 _).mono ?_); rintro e w3 ⟨rfl, hb3⟩
       have BX3 := blk_below (alloc_new (w := w2) rfl) hb3
       have HB3 : Below w.heap.size w w3 := below_step (below_alloc HB2 _) hb3
       simp only [eB2] at ⊢)
    | (go_at_call 30; (with_reducible refine (Sum2W_calls _ (cut1 m1) m2 (cut1 m3) m4 _ ?h0 ?h1 ?k1 ?k2 ?k3 ?k4).mono ?_); (case h0 => exact (blk_cell (alloc_new (by simp)) 0).trans rfl); (case h1 => exact (blk_cell (alloc_new (by simp)) 1).trans rfl); (case k1 => omega); (case k2 => omega); (case k3 => omega); (case k4 => omega); rintro e w1 ⟨x, y, rfl, hx, hy, ⟨n1, rfl⟩⟩))
  have BX4 := blk_drewN (blk_alloc (blk_alloc BX3 (.cells #[.int .i64 (cut1 m3), .int .i64 m4] 51)) (.cells #[.complex .f64 (W (cut1 m1)) (W m2), .complex .f64 (W (cut1 m3)) (W m4)] 50)) n1
  have BY4 := blk_drewN (blk_alloc (alloc_new (w := w3) (o := .cells #[.int .i64 (cut1 m3), .int .i64 m4] 51) rfl) (.cells #[.complex .f64 (W (cut1 m1)) (W m2), .complex .f64 (W (cut1 m3)) (W m4)] 50)) n1
  have HB4 := pw_below_drewN (below_alloc (below_alloc HB3 (.cells #[.int .i64 (cut1 m3), .int .i64 m4] 51)) (.cells #[.complex .f64 (W (cut1 m1)) (W m2), .complex .f64 (W (cut1 m3)) (W m4)] 50)) n1
  generalize ((w3.alloc (.cells #[.int .i64 (cut1 m3), .int .i64 m4] 51)).alloc (.cells #[.complex .f64 (W (cut1 m1)) (W m2), .complex .f64 (W (cut1 m3)) (W m4)] 50)).drewN n1 = w6 at BX4 BY4 HB4 ⊢
  have k1 := cell20 BX4
  have k2 := cell21 BX4
  have k3 := cell20 BY4
  have k4 := cell21 BY4
  clear BP1 BQ1 BQ2 BX3 c1 c2 c3a c4a hb2 hb3 HB5 HB2 HB3 hm1 hm2 hm3 hm4
  clear eA2 eB2
  generalize cut1 m1 = A at *
  generalize cut1 m3 = B at *
  have z1 : 0 ≤ A + B := by omega
  have z2 : A + B < 2 ^ 53 := by omega
  have z3 : 0 ≤ m2 + m4 := by omega
  have z4 : m2 + m4 < 2 ^ 53 := by omega
  have v1 : IntKind.i64.wrap (A + B) = A + B := IntWalk.i64_in _ (by omega)
  have v2 : IntKind.i64.wrap (m2 + m4) = m2 + m4 := IntWalk.i64_in _ (by clear v1; omega)
  go_region_held3 (fun w' => w'.cell? ⟨w2.heap.size, 0, none⟩ = some (.int .i64 A) ∧ w'.cell? ⟨w2.heap.size, 1, none⟩ = some (.int .i64 m2) ∧ w'.cell? ⟨w3.heap.size, 0, none⟩ = some (.int .i64 B) ∧ w'.cell? ⟨w3.heap.size, 1, none⟩ = some (.int .i64 m4)) (go_keep) (first
      | (go_at_call 25; (with_reducible refine (Weight_calls x y (A + B) _ hx z1 z2).mono ?_); rintro e w1 ⟨rfl, ⟨n1, rfl⟩⟩)
      | (go_at_call 27; (with_reducible refine (Cost_calls x y (m2 + m4) _ hy z3 z4).mono ?_); rintro e w1 ⟨rfl, ⟨n1, rfl⟩⟩))
  clear v1 v2
  have HB7 := pw_below_drewN HB4
  clear k1 k2 k3 k4 BX4 BY4
  have b1 : A.natAbs ≤ 2 ^ 25 := by omega
  have b2 : m2.natAbs ≤ 2 ^ 25 := by omega
  have b3 : B.natAbs ≤ 2 ^ 25 := by omega
  have b4 : m4.natAbs ≤ 2 ^ 25 := by omega
  have b5 : (A + B).natAbs ≤ 2 ^ 25 := by omega
  have b6 : (m2 + m4).natAbs ≤ 2 ^ 25 := by omega
  have iA := W_is A (by omega)
  have im2 := W_is m2 (by omega)
  have iB := W_is B (by omega)
  have im4 := W_is m4 (by omega)
  have hc1 := fun w => CompareW_calls A m2 B m4 w b1 b2 b3 b4
  have hc2 := fun w => Compare_calls (W A) (W m2) x y A m2 (A + B) (m2 + m4) w iA im2 hx hy b1 b2 b5 b6
  have hc3 := fun w => Compare_calls x y (W B) (W m4) (A + B) (m2 + m4) B m4 w hx hy iB im4 b5 b6 b3 b4
  have hc4 := fun w => Compare_calls (W B) (W m4) x y B m4 (A + B) (m2 + m4) w iB im4 hx hy b3 b4 b5 b6
  have hc5 := fun w => Compare_calls x y (W A) (W m2) (A + B) (m2 + m4) A m2 w hx hy iA im2 b5 b6 b1 b2
  have oz := order_eq is_zero is_zero
  have d1 : m2 * (A + B) = m2 * A + m2 * B := Int.mul_add _ _ _
  have d2 : (m2 + m4) * A = m2 * A + m4 * A := Int.add_mul _ _ _
  have d3 : (m2 + m4) * B = m2 * B + m4 * B := Int.add_mul _ _ _
  have d4 : m4 * (A + B) = m4 * A + m4 * B := Int.mul_add _ _ _
  by_cases hX : m2 * B ≤ m4 * A
  · obtain ⟨X, e1⟩ : ∃ X, sg (m2 * B) (m4 * A) = X := ⟨_, rfl⟩
    obtain ⟨Y1, e2⟩ : ∃ X, sg (m2 * (A + B)) ((m2 + m4) * A) = X := ⟨_, rfl⟩
    obtain ⟨Y2, e3⟩ : ∃ X, sg ((m2 + m4) * B) (m4 * (A + B)) = X := ⟨_, rfl⟩
    have l1 : X ≤ 0 := by rw [← e1]; exact sg_le.2 hX
    have l2 : Y1 ≤ 0 := by rw [← e2]; exact sg_le.2 (by rw [d1, d2]; omega)
    have l3 : Y2 ≤ 0 := by rw [← e3]; exact sg_le.2 (by rw [d3, d4]; omega)
    clear d1 d2 d3 d4 hX
    go_wp2_with (first
      | (go_at_call 28; (with_reducible first | refine (hc1 _).mono ?_ | refine (hc2 _).mono ?_ | refine (hc3 _).mono ?_); rintro e w1 ⟨rfl, ⟨n1, rfl⟩⟩; simp only [e1, e2, e3])
      | (go_at_call 30; (with_reducible refine (Sum0_calls _).mono ?_); rintro e w1 ⟨rfl, ⟨n1, rfl⟩⟩))
    go_ret
    exact ⟨by simp, by repeat (first | exact HB4 | apply below_alloc | apply pw_below_drewN | apply below_drew1)⟩
  · have e1 : sg (m2 * B) (m4 * A) = 1 := sg_gt (by omega)
    obtain ⟨Y1, e2⟩ : ∃ X, sg (m4 * (A + B)) ((m2 + m4) * B) = X := ⟨_, rfl⟩
    obtain ⟨Y2, e3⟩ : ∃ X, sg ((m2 + m4) * A) (m2 * (A + B)) = X := ⟨_, rfl⟩
    have l2 : Y1 ≤ 0 := by rw [← e2]; exact sg_le.2 (by rw [d3, d4]; omega)
    have l3 : Y2 ≤ 0 := by rw [← e3]; exact sg_le.2 (by rw [d1, d2]; omega)
    clear d1 d2 d3 d4 hX
    go_wp2_with (first
      | (go_at_call 28; (with_reducible first | refine (hc1 _).mono ?_ | refine (hc4 _).mono ?_ | refine (hc5 _).mono ?_); rintro e w1 ⟨rfl, ⟨n1, rfl⟩⟩; simp only [e1, e2, e3])
      | (go_at_call 30; (with_reducible refine (Sum0_calls _).mono ?_); rintro e w1 ⟨rfl, ⟨n1, rfl⟩⟩))
    go_ret
    exact ⟨by simp, by repeat (first | exact HB4 | apply below_alloc | apply pw_below_drewN | apply below_drew1)⟩
end Go.Proofs.Ytkldfjlbgmppfaa.Fl
