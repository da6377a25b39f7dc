import Derived.Test.YtkldfjlbgmppfacFn
import Derived.WalkSpells
import Derived.StillTactics
import Derived.Laws.Pointers
import Derived.Deep.RegionHeld3
import Derived.Deep.QuietTactic
import Derived.KernelRfl
import Derived.IntWalk
namespace Go.Proofs.Ytkldfjlbgmppfac.Fl
open Go.RowKit Go.Proofs.YtkldfjlbgmppfacW.PrintWords Go.Proofs.YtkldfjlbgmppfacW.PrintLast Go.Proofs.YtkldfjlbgmppfacW.PrintMore
set_option linter.unusedVariables false
set_option linter.unusedSimpArgs false
attribute [local go_sem] max2_int min2_int max_two min_two unary_neg_float

theorem far2 {W : World} {b i c j : Nat} (h : c ≠ b) (u : Value) : (W.setCell ⟨b, i, none⟩ u).cell? ⟨c, j, none⟩ = W.cell? ⟨c, j, none⟩ := cell_far h u

theorem alloc_new {w : World} {o : Obj} {g : Nat} (h : g = w.heap.size) : (w.alloc o).heap[g]? = some o := by subst h; exact heap_alloc_new w o

theorem cut_range (n : Int) : 0 ≤ cut n ∧ cut n ≤ 16777216 := by unfold cut; (repeat' split) <;> omega
theorem cut_id {n : Int} (h : 0 ≤ n) (h1 : n ≤ 16777216) : cut n = n := by unfold cut; (repeat' split) <;> omega
/-- A share's weight. -/
def cut1 (n : Int) : Int := if cut n < 1 then 1 else cut n
theorem cut1_range (n : Int) : 1 ≤ cut1 n ∧ cut1 n ≤ 16777216 := by have := cut_range n; unfold cut1; split <;> omega

set_option maxHeartbeats 8000000 in
set_option maxRecDepth 100000 in
theorem share_calls (a b : Int) (w : World) : Calls Try.prog 6 #[.agg #[.int .i64 a, .int .i64 b]] w fun e w' => e = .returned (.tuple #[.complex .f64 (W (cut1 a)) (W (cut b)), .agg #[.int .i64 (cut1 a), .int .i64 (cut b)]]) ∧ Below w.heap.size w w' := by
  have r1 := cut_range a
  have r2 := cut_range b
  have r3 := cut1_range a
  have e1 : cut (cut1 a) = cut1 a := cut_id (by omega) (by omega)
  have e2 : cut (cut b) = cut b := cut_id (by omega) (by omega)
  have e3 : (if cut a < 1 then 1 else cut a) = cut1 a := rfl
  go_enter Try.func6, Try.ntmps6
  go_wp2
  go_cut [3, 4] (fun v3 v4 wc => v3 = .pointer (some ⟨w.heap.size + 1, 0, none⟩) ∧ v4 = .pointer (some ⟨w.heap.size + 1 + 1, 0, none⟩) ∧ wc.heap[w.heap.size + 1 + 1]? = some (.cells #[.int .i64 (cut1 a), .int .i64 (cut b)] 27 (0, 0)) ∧ wc.heap[w.heap.size + 1]? = some (.cells #[.int .i64 0, .int .i64 0] 27 (0, 0)) ∧ Below w.heap.size w wc)
  case first =>
    have hne : w.heap.size + 1 ≠ w.heap.size + 1 + 1 := by omega
    go_region_held3 (fun w' => w'.cell? ⟨w.heap.size, 0, none⟩ = some (.int .i64 a) ∧ w'.cell? ⟨w.heap.size, 1, none⟩ = some (.int .i64 b)) (first | go_keep | (simp only [far2 (show w.heap.size ≠ w.heap.size + 1 + 1 by omega)]; go_keep)) (first | (go_at_call 13; (with_reducible refine (Cut_calls _ _).mono ?_); rintro e w1 ⟨rfl, ⟨n1, rfl⟩⟩))
    all_goals
      go_wp2
      go_meet
      refine ⟨rfl, rfl, ?_, ?_, ?_⟩
      · first
        | ((with_reducible repeat (first | refine blk_drewN ?_ _ | refine blk_drew ?_)); (with_reducible refine alloc_new ?_); simp; done)
        | ((with_reducible repeat (first | refine blk_drewN ?_ _ | refine blk_drew ?_)); refine blk_put (cs := #[.int .i64 (cut1 a), .int .i64 0]) ?_ 1 _ rfl; (with_reducible repeat (first | refine blk_drewN ?_ _ | refine blk_drew ?_)); refine blk_put (cs := #[.int .i64 0, .int .i64 0]) ?_ 0 _ rfl; (with_reducible repeat (first | refine blk_drewN ?_ _ | refine blk_drew ?_)); (with_reducible refine alloc_new ?_); simp; done)
      · first
        | ((with_reducible repeat (first | refine blk_far ?_ hne _ | refine blk_drewN ?_ _ | refine blk_drew ?_)); (with_reducible refine blk_alloc ?_ _);  (with_reducible repeat (first | refine blk_drewN ?_ _ | refine blk_drew ?_)); (with_reducible refine alloc_new ?_); simp; done)
      · first
        | ((with_reducible repeat (first | apply below_alloc | apply pw_below_drewN | apply below_drew1 | (refine below_set ?_ ?_; rotate_left; omega; skip))); (with_reducible exact Below.refl _ _))
  case rest =>
    obtain ⟨rfl, rfl, q1, q2, q3⟩ := hcut
    have c0 := blk_cell q1 0
    have c1 := blk_cell q1 1
    have c2 := blk_cell q2 0
    have c3 := blk_cell q2 1
    have f0 := blk_frozen q2 0
    have f1 := blk_frozen q2 1
    simp only [List.getElem?_toArray, List.getElem?_cons_zero, List.getElem?_cons_succ] at c0 c1 c2 c3
    go_wp2
    go_region_held3 (fun w' => w'.cell? ⟨w.heap.size + 1 + 1, 0, none⟩ = some (.int .i64 (cut1 a)) ∧ w'.cell? ⟨w.heap.size + 1 + 1, 1, none⟩ = some (.int .i64 (cut b))) (first | go_keep | (simp only [far2 (show w.heap.size + 1 + 1 ≠ w.heap.size + 1 by omega)]; go_keep)) (first | (go_at_call 12; (with_reducible refine (Share_calls _ _ _).mono ?_); rintro e w1 ⟨rfl, ⟨n1, rfl⟩⟩))
    all_goals
      have g1 : w.heap.size ≤ w.heap.size + 1 := by omega
      go_wp2
      try simp only [Exit.inBlock, Exit.then]
      refine bodyPost_ret (results_tc rfl _ _ (w.heap.size + 1) 27 #[.int .i64 (cut1 a), .int .i64 (cut b)] (0, 0) _ rfl (by (with_reducible refine blk_put (cs := #[.int .i64 (cut1 a), .int .i64 0]) ?_ 1 _ rfl); (with_reducible refine blk_put (cs := #[.int .i64 0, .int .i64 0]) ?_ 0 _ rfl); exact q2) Try.underlying27 rfl (by kernel_rfl)) rfl ?_
      exact ⟨rfl, below_set (below_set (pw_below_drewN q3 _) g1) g1⟩
end Go.Proofs.Ytkldfjlbgmppfac.Fl
