import Derived.Test.YtkldfjlbgmppfaaRt
import Derived.Test.YtkldfjlbgmppfaaPlain
namespace Go.Proofs.Ytkldfjlbgmppfaa.Fl
open Go.RowKit Go.Proofs.YtkldfjlbgmppfaaW.PrintWords Go.Proofs.YtkldfjlbgmppfaaW.PrintLast Go.Proofs.YtkldfjlbgmppfaaW.PrintMore
set_option linter.unusedVariables false
set_option linter.unusedSimpArgs false
attribute [local go_sem] max2_int min2_int max_two min_two unary_neg_float

theorem sg_le0 {a b : Int} (h : a ≤ b) : sg a b ≤ 0 := by
  unfold sg; split
  · omega
  · split <;> omega

set_option maxHeartbeats 8000000 in
set_option maxRecDepth 100000 in
theorem Scales_calls (p1 p2 times more : Int) (w : World) : Calls Try.prog 11 #[.agg #[.int .i64 p1, .int .i64 p2], .int .i64 times, .int .i64 more] w fun e w' => e = .returned (.bool true) ∧ Below w.heap.size w w' := by
  have mask : ∀ a : Int, bits .and .i64 a 4095 = a % 4096 := fun a => Plain.and_mask a 12 (by omega)
  obtain ⟨m1, hm1⟩ : ∃ m, bits .and .i64 p1 4095 = m := ⟨_, rfl⟩
  obtain ⟨m2, hm2⟩ : ∃ m, bits .and .i64 p2 4095 = m := ⟨_, rfl⟩
  obtain ⟨m3, hm3⟩ : ∃ m, bits .and .i64 times 4095 = m := ⟨_, rfl⟩
  obtain ⟨m4, hm4⟩ : ∃ m, bits .and .i64 more 4095 = m := ⟨_, rfl⟩
  have g1 : 0 ≤ m1 ∧ m1 ≤ 4095 := by rw [← hm1, mask]; omega
  have g2 : 0 ≤ m2 ∧ m2 ≤ 4095 := by rw [← hm2, mask]; omega
  have g3 : 0 ≤ m3 ∧ m3 ≤ 4095 := by rw [← hm3, mask]; omega
  have g4 : 0 ≤ m4 ∧ m4 ≤ 4095 := by rw [← hm4, mask]; omega
  clear mask
  obtain ⟨A, hA⟩ : ∃ m, wrap64 (1 + m1) = m := ⟨_, rfl⟩
  obtain ⟨T, hT⟩ : ∃ m, wrap64 (1 + m3) = m := ⟨_, rfl⟩
  obtain ⟨M, hM⟩ : ∃ m, wrap64 (1 + m4) = m := ⟨_, rfl⟩
  have gA : 1 ≤ A ∧ A ≤ 4096 := by rw [← hA]; unfold wrap64; omega
  have gT : 1 ≤ T ∧ T ≤ 4096 := by rw [← hT]; unfold wrap64; omega
  have gM : 1 ≤ M ∧ M ≤ 4096 := by rw [← hM]; unfold wrap64; omega
  have n1 : (A * T).natAbs ≤ 4096 * 4096 := mul_small (by omega) (by omega)
  have n2 : (m2 * T).natAbs ≤ 4096 * 4096 := mul_small (by omega) (by omega)
  have n3 : 0 ≤ A * T := Int.mul_nonneg (by omega) (by omega)
  have n4 : 0 ≤ m2 * T := Int.mul_nonneg (by omega) (by omega)
  obtain ⟨AT, hAT⟩ : ∃ m, wrap64 (A * T) = m := ⟨_, rfl⟩
  obtain ⟨CT, hCT⟩ : ∃ m, wrap64 (m2 * T) = m := ⟨_, rfl⟩
  have eAT : AT = A * T := by rw [← hAT]; exact wrap_small _ (by omega)
  have eCT : CT = m2 * T := by rw [← hCT]; exact wrap_small _ (by omega)
  have q1 : 0 ≤ AT ∧ AT ≤ 16777216 := by rw [eAT]; omega
  have q2 : 0 ≤ CT ∧ CT ≤ 16777216 := by rw [eCT]; omega
  have s1 : sg (m2 * AT) (CT * A) = 0 := sg_eq (by rw [eAT, eCT, Int.mul_assoc, Int.mul_comm T A])
  have s2 : sg (m2 * A) ((m2 + M) * A) = -1 := sg_lt (by exact Int.mul_lt_mul_of_pos_right (by omega) (by omega))
  obtain ⟨Y, s3⟩ : ∃ Y, sg (m2 * A) (m2 * (A + M)) = Y := ⟨_, rfl⟩
  have gY : Y ≤ 0 := by rw [← s3]; exact sg_le0 (Int.mul_le_mul_of_nonneg_left (by omega) (by omega))
  clear n1 n2 n3 n4 eAT eCT g1 g3 g4
  have hD : Aside0 (A.natAbs ≤ 2 ^ 25 ∧ m2.natAbs ≤ 2 ^ 25 ∧ AT.natAbs ≤ 2 ^ 25 ∧ CT.natAbs ≤ 2 ^ 25 ∧ (m2 + M).natAbs ≤ 2 ^ 25 ∧ (A + M).natAbs ≤ 2 ^ 25) := ⟨by omega⟩
  have hE : Aside0 ((0 ≤ A ∧ A ≤ 16777216) ∧ (0 ≤ m2 ∧ m2 ≤ 16777216) ∧ (0 ≤ AT ∧ AT ≤ 16777216) ∧ (0 ≤ CT ∧ CT ≤ 16777216) ∧ (0 ≤ (m2 + M) ∧ (m2 + M) ≤ 16777216) ∧ (0 ≤ (A + M) ∧ (A + M) ≤ 16777216)) := ⟨by omega⟩
  go_enter Try.func11, Try.ntmps11
  go_wp2_with (first
    | (go_at_call 22; (with_reducible refine (shown_calls _).mono ?_); rintro e w1 ⟨rfl, hb1⟩
       have BP : w1.heap[w.heap.size]? = some (.cells #[.int .i64 p1, .int .i64 p2] 49 (0, 0)) := blk_below (alloc_new rfl) hb1
       have HB1 : Below w.heap.size w w1 := below_step (below_alloc (Below.refl _ _) _) hb1
       have c1 := cell20 BP
       have c2 := cell21 BP)
    | (go_at_call 24; (with_reducible refine (ShareW_calls _ _ _ ?h1 ?h2).mono ?_); (case h1 => have := hE.out; omega); (case h2 => have := hE.out; omega); rintro e w1 ⟨rfl, ⟨n1, rfl⟩⟩)
    | (go_at_call 28; (with_reducible refine (CompareW_calls _ _ _ _ _ ?h1 ?h2 ?h3 ?h4).mono ?_); (case h1 => have := hD.out; omega); (case h2 => have := hD.out; omega); (case h3 => have := hD.out; omega); (case h4 => have := hD.out; omega); rintro e w1 ⟨rfl, ⟨n1, rfl⟩⟩; simp only [s1, s2, s3]))
  go_ret
  exact ⟨by simp, by repeat (first | exact HB1 | apply pw_below_drewN | apply below_drew1)⟩
end Go.Proofs.Ytkldfjlbgmppfaa.Fl
