import Derived.Test.YtkldfjlbgmppfaaSw
namespace Go.Proofs.Ytkldfjlbgmppfaa.Fl
open Go.RowKit Go.Proofs.YtkldfjlbgmppfaaW.PrintWords Go.Proofs.YtkldfjlbgmppfaaW.PrintLast Go.Proofs.YtkldfjlbgmppfaaW.PrintMore
set_option linter.unusedVariables false
set_option linter.unusedSimpArgs false
attribute [local go_sem] max2_int min2_int max_two min_two unary_neg_float

/-- The two numbers of a block. -/
theorem cell20 {w : World} {g t : Nat} {a b : Int} (h : w.heap[g]? = some (.cells #[.int .i64 a, .int .i64 b] t (0, 0))) : w.cell? ⟨g, 0, none⟩ = some (.int .i64 a) := (blk_cell h 0).trans rfl
theorem cell21 {w : World} {g t : Nat} {a b : Int} (h : w.heap[g]? = some (.cells #[.int .i64 a, .int .i64 b] t (0, 0))) : w.cell? ⟨g, 1, none⟩ = some (.int .i64 b) := (blk_cell h 1).trans rfl

set_option maxHeartbeats 8000000 in
set_option maxRecDepth 100000 in
theorem Tells_calls (p1 p2 q1 q2 : Int) (w : World) : Calls Try.prog 8 #[.agg #[.int .i64 p1, .int .i64 p2], .agg #[.int .i64 q1, .int .i64 q2]] w fun e w' => e = .returned (.bool true) ∧ Below w.heap.size w w' := by
  go_enter Try.func8, Try.ntmps8
  go_wp2_with (first
    | (go_at_call 22; (with_reducible refine (shown_calls _).mono ?_); rintro e w1 ⟨rfl, hb1⟩
       have BP : w1.heap[w.heap.size]? = some (.cells #[.int .i64 p1, .int .i64 p2] 49 (0, 0)) := blk_below (blk_alloc (alloc_new rfl) _) hb1
       have BQ : w1.heap[w.heap.size + 1]? = some (.cells #[.int .i64 q1, .int .i64 q2] 49 (0, 0)) := blk_below (alloc_new (by simp)) hb1
       have HB1 : Below w.heap.size w w1 := below_step (below_alloc (below_alloc (Below.refl _ _) _) _) hb1
       have c1 := cell20 BP
       have c2 := cell21 BP)
    | (go_at_call 23; (with_reducible refine (share_calls p1 p2 _).mono ?_); rintro e w2 ⟨rfl, hb2⟩
       have BP2 := blk_below BP hb2
       have BQ2 := blk_below BQ hb2
       have HB2 : Below w.heap.size w w2 := below_step HB1 hb2
       have c3 := cell20 BQ2
       have c4 := cell21 BQ2
       have c3a := cell20 (blk_alloc BQ2 (.cells #[.int .i64 (cut1 p1), .int .i64 (cut p2)] 51))
       have c4a := cell21 (blk_alloc BQ2 (.cells #[.int .i64 (cut1 p1), .int .i64 (cut p2)] 51)))
    | (go_at_call 23; (with_reducible refine (share_calls q1 q2 _).mono ?_); rintro e w3 ⟨rfl, hb3⟩
       have BP3 := blk_below (blk_alloc BP2 _) hb3
       have BQ3 := blk_below (blk_alloc BQ2 _) hb3
       have BX3 := blk_below (alloc_new (w := w2) rfl) hb3
       have HB3 : Below w.heap.size w w3 := below_step (below_alloc HB2 _) hb3
       have c5 := cell20 (blk_alloc BP3 (.cells #[.int .i64 (cut1 q1), .int .i64 (cut q2)] 51))
       have c6 := cell21 (blk_alloc BP3 (.cells #[.int .i64 (cut1 q1), .int .i64 (cut q2)] 51)))
    | (go_at_call 24; (with_reducible refine (Share_calls p1 p2 _).mono ?_); rintro e w4 ⟨rfl, ⟨n4, rfl⟩⟩))
  have r1 := cut_range p1
  have r2 := cut_range p2
  have r3 : 0 ≤ cut1 p1 ∧ cut1 p1 ≤ 16777216 := by have := cut1_range p1; omega
  have r4 := cut_range q2
  have r5 : 0 ≤ cut1 q1 ∧ cut1 q1 ≤ 16777216 := by have := cut1_range q1; omega
  go_cut [11] (fun v11 wc => v11 = .bool true ∧ wc.heap[w2.heap.size]? = some (.cells #[.int .i64 (cut1 p1), .int .i64 (cut p2)] 51 (0, 0)) ∧ wc.heap[w3.heap.size]? = some (.cells #[.int .i64 (cut1 q1), .int .i64 (cut q2)] 51 (0, 0)) ∧ Below w.heap.size w wc)
  case first =>
    have BX4 := blk_drewN (blk_alloc BX3 (.cells #[.int .i64 (cut1 q1), .int .i64 (cut q2)] 51)) n4
    have BY4 := blk_drewN (alloc_new (w := w3) (o := .cells #[.int .i64 (cut1 q1), .int .i64 (cut q2)] 51) rfl) n4
    have BP4 := blk_drewN (blk_alloc BP3 (.cells #[.int .i64 (cut1 q1), .int .i64 (cut q2)] 51)) n4
    have HB4 := pw_below_drewN (below_alloc HB3 (.cells #[.int .i64 (cut1 q1), .int .i64 (cut q2)] 51)) n4
    generalize (w3.alloc (.cells #[.int .i64 (cut1 q1), .int .i64 (cut q2)] 51)).drewN n4 = w4 at BX4 BY4 BP4 HB4 ⊢
    have k1 := cell20 BP4
    have k2 := cell21 BP4
    have k3 := cell20 BX4
    have k4 := cell21 BX4
    go_region_held3 (fun w' => w'.cell? ⟨w.heap.size, 0, none⟩ = some (.int .i64 p1) ∧ w'.cell? ⟨w.heap.size, 1, none⟩ = some (.int .i64 p2) ∧ w'.cell? ⟨w2.heap.size, 0, none⟩ = some (.int .i64 (cut1 p1)) ∧ w'.cell? ⟨w2.heap.size, 1, none⟩ = some (.int .i64 (cut p2))) (go_keep) (first
      | (go_at_call 25; (with_reducible refine (WeightW_calls _ _ _ ?h).mono ?_); (case h => first | exact r1 | exact r3); rintro e w1 ⟨rfl, ⟨n1, rfl⟩⟩)
      | (go_at_call 27; (with_reducible refine (CostW_calls _ _ _ ?h).mono ?_); (case h => exact r2); rintro e w1 ⟨rfl, ⟨n1, rfl⟩⟩)
      | (go_at_call 26; (with_reducible refine (Cut_calls _ _).mono ?_); rintro e w1 ⟨rfl, ⟨n1, rfl⟩⟩))
    all_goals
      go_wp2
      go_meet
      exact ⟨rfl, blk_drewN BX4 _, blk_drewN BY4 _, pw_below_drewN HB4 _⟩
  case rest =>
    obtain ⟨rfl, z1, z2, z3⟩ := hcut
    have k1 := cell20 z1
    have k2 := cell21 z1
    have k3 := cell20 z2
    have k4 := cell21 z2
    clear BP BQ BP2 BQ2 BP3 BQ3 BX3 c1 c2 c3 c4 c3a c4a c5 c6
    go_wp2
    go_region_held3 (fun w' => w'.cell? ⟨w2.heap.size, 0, none⟩ = some (.int .i64 (cut1 p1)) ∧ w'.cell? ⟨w2.heap.size, 1, none⟩ = some (.int .i64 (cut p2)) ∧ w'.cell? ⟨w3.heap.size, 0, none⟩ = some (.int .i64 (cut1 q1)) ∧ w'.cell? ⟨w3.heap.size, 1, none⟩ = some (.int .i64 (cut q2))) (first | go_keep | (refine ⟨?_, ?_, ?_, ?_⟩ <;> (refine pw_cell_below (by assumption) ?_; simp only [*]))) (first
      | (go_at_call 28; (with_reducible refine (CompareW_calls _ _ _ _ _ ?h1 ?h2 ?h3 ?h4).mono ?_); (case h1 => omega); (case h2 => omega); (case h3 => omega); (case h4 => omega); rintro e w1 ⟨rfl, ⟨n1, rfl⟩⟩)
      | (go_at_call 29; (with_reducible refine (RefCompare_calls _ _ _ _ _ ?h1 ?h2 ?h3 ?h4).mono ?_); (case h1 => omega); (case h2 => omega); (case h3 => omega); (case h4 => omega); rintro e w6 ⟨rfl, hb6⟩))
    all_goals
      go_wp2
      go_ret
      exact ⟨rfl, below_step (pw_below_drewN z3 _) hb6⟩
end Go.Proofs.Ytkldfjlbgmppfaa.Fl
