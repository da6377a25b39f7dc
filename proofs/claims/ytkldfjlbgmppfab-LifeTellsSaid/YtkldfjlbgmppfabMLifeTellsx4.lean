-- Written by a program of this session out of Lean's own print of the program. Not trusted: Lean checks it.
import Derived.Test.YtkldfjlbgmppfabMLifeTellsx0
import Derived.Test.YtkldfjlbgmppfabMLifeTellsx3
namespace Go.Proofs.Ytkldfjlbgmppfab.MLifeTells
open Go.RowKit Go.Proofs.YtkldfjlbgmppfabW.PrintWords Go.Proofs.YtkldfjlbgmppfabW.PrintLast Go.Proofs.YtkldfjlbgmppfabW.PrintMore
attribute [local go_sem] max2_int min2_int max_two min_two max_three min_three max_four min_four Wide.cell_twice  -- for this text's walks alone
set_option linter.unusedVariables false
set_option linter.unusedSimpArgs false

/-! ### millwrightref09_Do: function 41 -/
def millwrightref09_Do.j0 : Nat → Int → Bool → Int → Int → Int → Int → Int → Int → Option (Int × Int × Int × Int × Int × Int × Int)
  | 0, _, _, _, _, _, _, _, _ => none
  | k + 1, x1, x22, x436000, x436001, x436002, x436003, x436004, x436005 => if x22 = true then (some (x436000, x436001, x436002, x436003, x436004, x436005, 4)) else (if x1 = 1 then (some (x436000, x436001, 2, wrap64 (x436003 + 1), x436004, x436005, 0)) else (if x1 = 2 then (some (x436000, x436001, 1, x436003, x436004, wrap64 (x436005 + 1), 0)) else (if x1 = 3 then (some (x436000, x436001, 3, x436003, x436004, x436005, 0)) else (if x1 = 6 then (if (wrap64 (x436004 + 1)) ≥ x436000 then (some (x436000, x436001, 6, x436003, wrap64 (x436004 + 1), x436005, 0)) else (some (x436000, x436001, 4, x436003, wrap64 (x436004 + 1), x436005, 0))) else (if x1 = 8 then (some (x436000, x436001, 5, x436003, x436004, x436005, 0)) else (if x1 = 9 then (some (x436000, x436001, 6, x436003, x436004, x436005, 0)) else (if x1 = 10 then (some (x436000, x436001, 7, x436003, x436004, x436005, 0)) else (some (x436000, x436001, 1, x436003, x436004, x436005, 0)))))))))
def millwrightref09_Do.f (k : Nat) (a0_0 : Int) (a0_1 : Int) (a0_2 : Int) (a0_3 : Int) (a0_4 : Int) (a0_5 : Int) (a1 : Int) : Option (Int × Int × Int × Int × Int × Int × Int) := (millwrightref09_from.f k a1 a0_2).bind fun t437 => (if t437 = true then (if a1 = 2 then (millwrightref09_Do.j0 k a1 (decide (a0_5 ≥ a0_1)) a0_0 a0_1 a0_2 a0_3 a0_4 a0_5) else (millwrightref09_Do.j0 k a1 false a0_0 a0_1 a0_2 a0_3 a0_4 a0_5)) else (some (a0_0, a0_1, a0_2, a0_3, a0_4, a0_5, 8)))
theorem millwrightref09_Do.mono_l : ∀ k, (∀ y0 y1 y2 y3 y4 y5 y6 y7, LeO (millwrightref09_Do.j0 k y0 y1 y2 y3 y4 y5 y6 y7) (millwrightref09_Do.j0 (k + 1) y0 y1 y2 y3 y4 y5 y6 y7))
  | 0 => fun _ _ _ _ _ _ _ _ r h => by simp [millwrightref09_Do.j0] at h
  | k + 1 => by
    have ih0 := millwrightref09_Do.mono_l k
    · intro y0 y1 y2 y3 y4 y5 y6 y7
      unfold millwrightref09_Do.j0
      repeat' first
      | (with_reducible exact ih0 _ _ _ _ _ _ _ _)
      | (with_reducible exact millwrightref09_from.mono _ _ _)
      | (with_reducible exact LeO.refl _)
      | (with_reducible exact LeO.none _)
      | (with_reducible refine LeO.ite ?_ ?_)
      | (with_reducible refine LeO.bind ?_ (fun _ => ?_))
      | exact ih0 _ _ _ _ _ _ _ _
      | exact millwrightref09_from.mono _ _ _
      | exact LeO.none _
      | refine LeO.ite ?_ ?_
      | refine LeO.bind ?_ (fun _ => ?_)
theorem millwrightref09_Do.mono : ∀ a0 a1 a2 a3 a4 a5 a6 k, LeO (millwrightref09_Do.f k a0 a1 a2 a3 a4 a5 a6) (millwrightref09_Do.f (k + 1) a0 a1 a2 a3 a4 a5 a6) := by
  intro a0 a1 a2 a3 a4 a5 a6 k
  have ih0 := millwrightref09_Do.mono_l k
  unfold millwrightref09_Do.f
  repeat' first
      | (with_reducible exact ih0 _ _ _ _ _ _ _ _)
      | (with_reducible exact millwrightref09_from.mono _ _ _)
      | (with_reducible exact LeO.refl _)
      | (with_reducible exact LeO.none _)
      | (with_reducible refine LeO.ite ?_ ?_)
      | (with_reducible refine LeO.bind ?_ (fun _ => ?_))
      | exact ih0 _ _ _ _ _ _ _ _
      | exact millwrightref09_from.mono _ _ _
      | exact LeO.none _
      | refine LeO.ite ?_ ?_
      | refine LeO.bind ?_ (fun _ => ?_)
set_option maxHeartbeats 8000000 in
set_option maxRecDepth 100000 in
theorem millwrightref09_Do.calls (k : Nat) (a0_0 : Int) (a0_1 : Int) (a0_2 : Int) (a0_3 : Int) (a0_4 : Int) (a0_5 : Int) (a1 : Int) (r1 : Int) (r2 : Int) (r3 : Int) (r4 : Int) (r5 : Int) (r6 : Int) (r7 : Int) (w : World) (h : millwrightref09_Do.f k a0_0 a0_1 a0_2 a0_3 a0_4 a0_5 a1 = some (r1, r2, r3, r4, r5, r6, r7)) :
    Calls Try.prog 41 #[.agg #[.int .i64 a0_0, .int .i64 a0_1, .int .i64 a0_2, .int .i64 a0_3, .int .i64 a0_4, .int .i64 a0_5], .int .i64 a1] w fun e w' => e = .returned (.tuple #[.agg #[.int .i64 r1, .int .i64 r2, .int .i64 r3, .int .i64 r4, .int .i64 r5, .int .i64 r6], .int .i64 r7]) ∧ Below w.heap.size w w' := by
  have hu53 := Try.underlying53
  have HB := Aside0.mk (Below.refl w.heap.size w)
  have H : ((millwrightref09_from.f k a1 a0_2).bind fun t437 => (if t437 = true then (if a1 = 2 then (millwrightref09_Do.j0 k a1 (decide (a0_5 ≥ a0_1)) a0_0 a0_1 a0_2 a0_3 a0_4 a0_5) else (millwrightref09_Do.j0 k a1 false a0_0 a0_1 a0_2 a0_3 a0_4 a0_5)) else (some (a0_0, a0_1, a0_2, a0_3, a0_4, a0_5, 8)))) = some (r1, r2, r3, r4, r5, r6, r7) := h
  clear h
  replace H := Option.bind_eq_some_iff.mp H
  obtain ⟨t437, A30, H⟩ := H
  replace H : (if t437 = true then (if a1 = 2 then (millwrightref09_Do.j0 k a1 (decide (a0_5 ≥ a0_1)) a0_0 a0_1 a0_2 a0_3 a0_4 a0_5) else (millwrightref09_Do.j0 k a1 false a0_0 a0_1 a0_2 a0_3 a0_4 a0_5)) else (some (a0_0, a0_1, a0_2, a0_3, a0_4, a0_5, 8))) = some (r1, r2, r3, r4, r5, r6, r7) := H
  have A3 := Aside0.mk A30
  clear A30
  by_cases c4 : t437 = true
  · subst c4
    have H1 : (if a1 = 2 then (millwrightref09_Do.j0 k a1 (decide (a0_5 ≥ a0_1)) a0_0 a0_1 a0_2 a0_3 a0_4 a0_5) else (millwrightref09_Do.j0 k a1 false a0_0 a0_1 a0_2 a0_3 a0_4 a0_5)) = some (r1, r2, r3, r4, r5, r6, r7) := by rw [if_pos rfl] at H; exact H
    clear H
    have H := H1
    clear H1
    have HC5 := Aside0.mk H
    clear H
    go_enter Try.func41, Try.ntmps41
    go_upto_region 4 with (first | ((with_reducible refine gate_dst (N := 2) rfl ?_); refine box_event ?hg (N := 2) ?hd (cs := #[.int .i64 a0_0, .int .i64 a0_1, .int .i64 a0_2, .int .i64 a0_3, .int .i64 a0_4, .int .i64 a0_5]) (t := 53) ?hr ?_; (case hd => rfl); (case hg => rfl); (case hr => first | (go_simp; done) | (go_simp; rfl)); intro gb435 hg w6 hbox hb; have n0_ := Aside0.mk (below_step (by repeat (first | (with_reducible first | exact HB.out | apply below_alloc | apply pw_below_drewN | apply below_drew1) | exact HB.out)) hb); have n1_ := Aside0.mk (hbox); have n2_ := Aside0.mk ((by rw [hg]; exact (below_size (by repeat (first | (with_reducible first | exact HB.out | apply below_alloc | apply pw_below_drewN | apply below_drew1) | exact HB.out))) : w.heap.size ≤ gb435)); have n3_ := Aside0.mk ((by rw [hg]; exact (below_size (by repeat (first | (with_reducible first | exact HB.out | apply below_alloc | apply pw_below_drewN | apply below_drew1) | exact HB.out))) : w.heap.size ≤ gb435)); clear HB; have HB := n0_; have BK435 := n1_; have GW435 := n2_; have GE435 := n3_; clear n0_ n1_ n2_ n3_; clear hb hbox hg) | ((with_reducible refine gate_dst (N := 4) rfl ?_); refine box_event ?hg (N := 4) ?hd (cs := #[.int .i64 0, .int .i64 0, .int .i64 0, .int .i64 0, .int .i64 0, .int .i64 0]) (t := 53) ?hr ?_; (case hd => rfl); (case hg => rfl); (case hr => first | (go_simp; done) | (go_simp; rfl)); intro gb436 hg w7 hbox hb; have n0_ := Aside0.mk (blk_below (g := gb435) (o := .cells #[.int .i64 a0_0, .int .i64 a0_1, .int .i64 a0_2, .int .i64 a0_3, .int .i64 a0_4, .int .i64 a0_5] 53 (0, 0)) (by (with_reducible repeat (first | refine blk_drewN ?_ _ | refine blk_drew ?_ | refine blk_alloc ?_ _)); exact BK435.out) hb); have n1_ := Aside0.mk (below_step (by repeat (first | (with_reducible first | exact HB.out | apply below_alloc | apply pw_below_drewN | apply below_drew1 | refine below_set ?_ GE435.out) | exact HB.out)) hb); have n2_ := Aside0.mk (hbox); have n3_ := Aside0.mk ((by rw [hg]; exact (below_size (by repeat (first | (with_reducible first | exact HB.out | apply below_alloc | apply pw_below_drewN | apply below_drew1 | refine below_set ?_ GE435.out) | exact HB.out))) : w.heap.size ≤ gb436)); have n4_ := Aside0.mk ((by rw [hg]; exact (below_size (by repeat (first | (with_reducible first | exact HB.out | apply below_alloc | apply pw_below_drewN | apply below_drew1 | refine below_set ?_ GE435.out) | exact HB.out))) : w.heap.size ≤ gb436)); have n5_ := Aside0.mk ((by rw [hg]; exact Nat.ne_of_lt (blk_lt (g := gb435) (o := .cells #[.int .i64 a0_0, .int .i64 a0_1, .int .i64 a0_2, .int .i64 a0_3, .int .i64 a0_4, .int .i64 a0_5] 53 (0, 0)) (by (with_reducible repeat (first | refine blk_drewN ?_ _ | refine blk_drew ?_ | refine blk_alloc ?_ _)); exact BK435.out)) : gb435 ≠ gb436)); have n6_ := Aside0.mk ((by rw [hg]; exact Nat.ne_of_gt (blk_lt (g := gb435) (o := .cells #[.int .i64 a0_0, .int .i64 a0_1, .int .i64 a0_2, .int .i64 a0_3, .int .i64 a0_4, .int .i64 a0_5] 53 (0, 0)) (by (with_reducible repeat (first | refine blk_drewN ?_ _ | refine blk_drew ?_ | refine blk_alloc ?_ _)); exact BK435.out)) : gb436 ≠ gb435)); clear BK435; clear HB; have BK435 := n0_; have HB := n1_; have BK436 := n2_; have GW436 := n3_; have GE436 := n4_; have NB435_436 := n5_; have NB436_435 := n6_; clear n0_ n1_ n2_ n3_ n4_ n5_ n6_; clear hb hbox hg; have hnb8 := NB435_436.out; have hnc8 := NB436_435.out; have hcz9_0 : w7.cell? ⟨gb435, 0, none⟩ = some (.int .i64 a0_0) := (blk_cell BK435.out 0).trans rfl; have hcz9_1 : w7.cell? ⟨gb435, 1, none⟩ = some (.int .i64 a0_1) := (blk_cell BK435.out 1).trans rfl; have hcz9_2 : w7.cell? ⟨gb435, 2, none⟩ = some (.int .i64 a0_2) := (blk_cell BK435.out 2).trans rfl; have hcz9_3 : w7.cell? ⟨gb435, 3, none⟩ = some (.int .i64 a0_3) := (blk_cell BK435.out 3).trans rfl; have hcz9_4 : w7.cell? ⟨gb435, 4, none⟩ = some (.int .i64 a0_4) := (blk_cell BK435.out 4).trans rfl; have hcz9_5 : w7.cell? ⟨gb435, 5, none⟩ = some (.int .i64 a0_5) := (blk_cell BK435.out 5).trans rfl; have hfz9_0 := blk_frozen BK435.out 0; have hfz9_1 := blk_frozen BK435.out 1; have hfz9_2 := blk_frozen BK435.out 2; have hfz9_3 := blk_frozen BK435.out 3; have hfz9_4 := blk_frozen BK435.out 4; have hfz9_5 := blk_frozen BK435.out 5) | ((with_reducible refine gate_callee (f := 57) rfl ?_); refine goesL_ (some 10) rfl rfl Try.func57 (by kernel_rfl) rfl #[.int .i64 a1, .int .i64 a0_2] rfl (by (try simp only [List.map_toArray, List.map_cons, List.map_nil]); first | done | rfl | (simp only [List.length_drop, List.length_take]; rfl)) ?_; (with_reducible refine (millwrightref09_from.calls k a1 a0_2 true _ A3.out).mono ?_); rintro e w' ⟨rfl, ⟨nd, rfl⟩⟩; refine ⟨_, rfl, ?_⟩))
    (try simp only [Act.put, List.setIfInBounds_toArray, List.set_cons_zero, List.set_cons_succ])
    go_cut [22] (fun v22 wc => ∃ (kq : Nat) (x22_4 : Bool), v22 = .bool x22_4 ∧ Aside0 (millwrightref09_Do.j0 kq a1 x22_4 a0_0 a0_1 a0_2 a0_3 a0_4 a0_5 = some (r1, r2, r3, r4, r5, r6, r7)) ∧ Aside0 (kq ≤ k) ∧ Aside0 (wc.heap[gb435]? = some (.cells #[.int .i64 a0_0, .int .i64 a0_1, .int .i64 a0_2, .int .i64 a0_3, .int .i64 a0_4, .int .i64 a0_5] 53 (0, 0))) ∧ Aside0 (wc.heap[gb436]? = some (.cells #[.int .i64 0, .int .i64 0, .int .i64 0, .int .i64 0, .int .i64 0, .int .i64 0] 53 (0, 0))) ∧ Aside0 (Below w.heap.size w wc))
    case first =>
      have H := HC5.out
      clear HC5
      by_cases c10 : a1 = 2
      · rw [if_pos c10] at H
        have c10b0 : (a1 == 2) = true := beq_iff_eq.mpr c10
        have c10b1 : (a1 != 2) = false := bne_eq_false_iff_eq.mpr c10
        clear c10
        (first | rw [c10b0] | (simp only [i64_w, i32_w]; rw [c10b0]) | skip)
        have H' := Aside0.mk H
        clear H
        have hnb11 := NB435_436.out
        have hnc11 := NB436_435.out
        have hcz12_0 : w7.cell? ⟨gb435, 0, none⟩ = some (.int .i64 a0_0) := (blk_cell BK435.out 0).trans rfl
        have hcz12_1 : w7.cell? ⟨gb435, 1, none⟩ = some (.int .i64 a0_1) := (blk_cell BK435.out 1).trans rfl
        have hcz12_2 : w7.cell? ⟨gb435, 2, none⟩ = some (.int .i64 a0_2) := (blk_cell BK435.out 2).trans rfl
        have hcz12_3 : w7.cell? ⟨gb435, 3, none⟩ = some (.int .i64 a0_3) := (blk_cell BK435.out 3).trans rfl
        have hcz12_4 : w7.cell? ⟨gb435, 4, none⟩ = some (.int .i64 a0_4) := (blk_cell BK435.out 4).trans rfl
        have hcz12_5 : w7.cell? ⟨gb435, 5, none⟩ = some (.int .i64 a0_5) := (blk_cell BK435.out 5).trans rfl
        have hfz12_0 := blk_frozen BK435.out 0
        have hfz12_1 := blk_frozen BK435.out 1
        have hfz12_2 := blk_frozen BK435.out 2
        have hfz12_3 := blk_frozen BK435.out 3
        have hfz12_4 := blk_frozen BK435.out 4
        have hfz12_5 := blk_frozen BK435.out 5
        go_wp2
        first | go_meet | (refine Met.intro ?_; go_step; (try rw [c10b0]); (repeat apply Exists.intro); refine ⟨?rel, rfl⟩)
        case rel => exact ⟨_, (decide (a0_5 ≥ a0_1)), (by first | rfl | (simp; done) | (simp [*]; done)), H', ⟨by first | omega | exact Nat.le_refl _⟩, ⟨by (with_reducible repeat (first | refine blk_drewN ?_ _ | refine blk_drew ?_ | refine blk_alloc ?_ _)); exact BK435.out⟩, ⟨by (with_reducible repeat (first | refine blk_drewN ?_ _ | refine blk_drew ?_ | refine blk_alloc ?_ _)); exact BK436.out⟩, ⟨by repeat (first | (with_reducible first | exact HB.out | apply below_alloc | apply pw_below_drewN | apply below_drew1 | refine below_set ?_ GE435.out | refine below_set ?_ GE436.out) | exact HB.out)⟩⟩
      · rw [if_neg c10] at H
        have c10b0 : (a1 == 2) = false := beq_eq_false_iff_ne.mpr c10
        have c10b1 : (a1 != 2) = true := bne_iff_ne.mpr c10
        (first | rw [c10b0] | (simp only [i64_w, i32_w]; rw [c10b0]) | skip)
        have H' := Aside0.mk H
        clear H
        go_wp2
        first | go_meet | (refine Met.intro ?_; go_step; (try rw [c10b0]); (repeat apply Exists.intro); refine ⟨?rel, rfl⟩)
        case rel => exact ⟨_, (false), (by first | rfl | (simp; done) | (simp [*]; done)), H', ⟨by first | omega | exact Nat.le_refl _⟩, ⟨by (with_reducible repeat (first | refine blk_drewN ?_ _ | refine blk_drew ?_ | refine blk_alloc ?_ _)); exact BK435.out⟩, ⟨by (with_reducible repeat (first | refine blk_drewN ?_ _ | refine blk_drew ?_ | refine blk_alloc ?_ _)); exact BK436.out⟩, ⟨by repeat (first | (with_reducible first | exact HB.out | apply below_alloc | apply pw_below_drewN | apply below_drew1 | refine below_set ?_ GE435.out | refine below_set ?_ GE436.out) | exact HB.out)⟩⟩
    case rest =>
      clear HC5
      try clear c1
      try clear p2
      try clear c4
      try clear c5
      try clear c8
      try clear c10
      try clear c10b0
      try clear c10b1
      try clear c11
      try clear hcz12_0
      try clear hcz12_1
      try clear hcz12_2
      try clear hcz12_3
      try clear hcz12_4
      try clear hcz12_5
      try clear hcz9_0
      try clear hcz9_1
      try clear hcz9_2
      try clear hcz9_3
      try clear hcz9_4
      try clear hcz9_5
      try clear hfz12_0
      try clear hfz12_1
      try clear hfz12_2
      try clear hfz12_3
      try clear hfz12_4
      try clear hfz12_5
      try clear hfz9_0
      try clear hfz9_1
      try clear hfz9_2
      try clear hfz9_3
      try clear hfz9_4
      try clear hfz9_5
      obtain ⟨kq, x22_4, rfl, HA, HJ4, BK435, BK436, HB⟩ := hcut
      cases kq with
      | zero => exact absurd HA.out (by simp [millwrightref09_Do.j0])
      | succ kj4 =>
        have H := HA.out
        clear HA
        simp only [millwrightref09_Do.j0] at H
        by_cases c13 : x22_4 = true
        · subst c13
          have H1 : (some (a0_0, a0_1, a0_2, a0_3, a0_4, a0_5, 4)) = some (r1, r2, r3, r4, r5, r6, r7) := by rw [if_pos rfl] at H; exact H
          clear H
          have H := H1
          clear H1
          simp only [Option.some.injEq, Prod.mk.injEq] at H
          obtain ⟨rfl, rfl, rfl, rfl, rfl, rfl, rfl⟩ := H
          have hnb14 := NB435_436.out
          have hnc14 := NB436_435.out
          have hcz15_0 : wc.cell? ⟨gb435, 0, none⟩ = some (.int .i64 a0_0) := (blk_cell BK435.out 0).trans rfl
          have hcz15_1 : wc.cell? ⟨gb435, 1, none⟩ = some (.int .i64 a0_1) := (blk_cell BK435.out 1).trans rfl
          have hcz15_2 : wc.cell? ⟨gb435, 2, none⟩ = some (.int .i64 a0_2) := (blk_cell BK435.out 2).trans rfl
          have hcz15_3 : wc.cell? ⟨gb435, 3, none⟩ = some (.int .i64 a0_3) := (blk_cell BK435.out 3).trans rfl
          have hcz15_4 : wc.cell? ⟨gb435, 4, none⟩ = some (.int .i64 a0_4) := (blk_cell BK435.out 4).trans rfl
          have hcz15_5 : wc.cell? ⟨gb435, 5, none⟩ = some (.int .i64 a0_5) := (blk_cell BK435.out 5).trans rfl
          have hfz15_0 := blk_frozen BK435.out 0
          have hfz15_1 := blk_frozen BK435.out 1
          have hfz15_2 := blk_frozen BK435.out 2
          have hfz15_3 := blk_frozen BK435.out 3
          have hfz15_4 := blk_frozen BK435.out 4
          have hfz15_5 := blk_frozen BK435.out 5
          have hcz16_0 : wc.cell? ⟨gb436, 0, none⟩ = some (.int .i64 0) := (blk_cell BK436.out 0).trans rfl
          have hcz16_1 : wc.cell? ⟨gb436, 1, none⟩ = some (.int .i64 0) := (blk_cell BK436.out 1).trans rfl
          have hcz16_2 : wc.cell? ⟨gb436, 2, none⟩ = some (.int .i64 0) := (blk_cell BK436.out 2).trans rfl
          have hcz16_3 : wc.cell? ⟨gb436, 3, none⟩ = some (.int .i64 0) := (blk_cell BK436.out 3).trans rfl
          have hcz16_4 : wc.cell? ⟨gb436, 4, none⟩ = some (.int .i64 0) := (blk_cell BK436.out 4).trans rfl
          have hcz16_5 : wc.cell? ⟨gb436, 5, none⟩ = some (.int .i64 0) := (blk_cell BK436.out 5).trans rfl
          have hfz16_0 := blk_frozen BK436.out 0
          have hfz16_1 := blk_frozen BK436.out 1
          have hfz16_2 := blk_frozen BK436.out 2
          have hfz16_3 := blk_frozen BK436.out 3
          have hfz16_4 := blk_frozen BK436.out 4
          have hfz16_5 := blk_frozen BK436.out 5
          go_wp2
          refine bodyPost_ret (results_ct rfl _ _ gb436 53 #[.int .i64 a0_0, .int .i64 a0_1, .int .i64 a0_2, .int .i64 a0_3, .int .i64 a0_4, .int .i64 a0_5] (0, 0) _ rfl (by (with_reducible repeat (first | refine blk_drewN ?_ _ | refine blk_drew ?_ | refine blk_alloc ?_ _)); refine blk_put (cs := #[.int .i64 a0_0, .int .i64 a0_1, .int .i64 a0_2, .int .i64 a0_3, .int .i64 a0_4, .int .i64 0]) ?_ 5 _ rfl; (with_reducible repeat (first | refine blk_drewN ?_ _ | refine blk_drew ?_ | refine blk_alloc ?_ _)); refine blk_put (cs := #[.int .i64 a0_0, .int .i64 a0_1, .int .i64 a0_2, .int .i64 a0_3, .int .i64 0, .int .i64 0]) ?_ 4 _ rfl; (with_reducible repeat (first | refine blk_drewN ?_ _ | refine blk_drew ?_ | refine blk_alloc ?_ _)); refine blk_put (cs := #[.int .i64 a0_0, .int .i64 a0_1, .int .i64 a0_2, .int .i64 0, .int .i64 0, .int .i64 0]) ?_ 3 _ rfl; (with_reducible repeat (first | refine blk_drewN ?_ _ | refine blk_drew ?_ | refine blk_alloc ?_ _)); refine blk_put (cs := #[.int .i64 a0_0, .int .i64 a0_1, .int .i64 0, .int .i64 0, .int .i64 0, .int .i64 0]) ?_ 2 _ rfl; (with_reducible repeat (first | refine blk_drewN ?_ _ | refine blk_drew ?_ | refine blk_alloc ?_ _)); refine blk_put (cs := #[.int .i64 a0_0, .int .i64 0, .int .i64 0, .int .i64 0, .int .i64 0, .int .i64 0]) ?_ 1 _ rfl; (with_reducible repeat (first | refine blk_drewN ?_ _ | refine blk_drew ?_ | refine blk_alloc ?_ _)); refine blk_put (cs := #[.int .i64 0, .int .i64 0, .int .i64 0, .int .i64 0, .int .i64 0, .int .i64 0]) ?_ 0 _ rfl; (with_reducible repeat (first | refine blk_drewN ?_ _ | refine blk_drew ?_ | refine blk_alloc ?_ _)); exact BK436.out) Try.underlying53 rfl (by kernel_rfl)) rfl ?_
          exact ⟨by first | rfl | (simp [errW_none, errW_some] <;> rfl) | (simp [*, errW_none, errW_some] <;> rfl), by repeat (first | (with_reducible first | exact HB.out | apply below_alloc | apply pw_below_drewN | apply below_drew1 | refine below_set ?_ GE435.out | refine below_set ?_ GE436.out) | exact HB.out)⟩
        · replace c13 := Bool.eq_false_iff.mpr c13
          subst c13
          have H1 : (if a1 = 1 then (some (a0_0, a0_1, 2, wrap64 (a0_3 + 1), a0_4, a0_5, 0)) else (if a1 = 2 then (some (a0_0, a0_1, 1, a0_3, a0_4, wrap64 (a0_5 + 1), 0)) else (if a1 = 3 then (some (a0_0, a0_1, 3, a0_3, a0_4, a0_5, 0)) else (if a1 = 6 then (if (wrap64 (a0_4 + 1)) ≥ a0_0 then (some (a0_0, a0_1, 6, a0_3, wrap64 (a0_4 + 1), a0_5, 0)) else (some (a0_0, a0_1, 4, a0_3, wrap64 (a0_4 + 1), a0_5, 0))) else (if a1 = 8 then (some (a0_0, a0_1, 5, a0_3, a0_4, a0_5, 0)) else (if a1 = 9 then (some (a0_0, a0_1, 6, a0_3, a0_4, a0_5, 0)) else (if a1 = 10 then (some (a0_0, a0_1, 7, a0_3, a0_4, a0_5, 0)) else (some (a0_0, a0_1, 1, a0_3, a0_4, a0_5, 0))))))))) = some (r1, r2, r3, r4, r5, r6, r7) := by rw [if_neg (show ¬ (false = true) by decide)] at H; exact H
          clear H
          have H := H1
          clear H1
          by_cases c17 : a1 = 1
          · rw [if_pos c17] at H
            have c17b0 : (a1 == 1) = true := beq_iff_eq.mpr c17
            have c17b1 : (a1 != 1) = false := bne_eq_false_iff_eq.mpr c17
            clear c17
            simp only [Option.some.injEq, Prod.mk.injEq] at H
            obtain ⟨rfl, rfl, rfl, rfl, rfl, rfl, rfl⟩ := H
            have hnb18 := NB435_436.out
            have hnc18 := NB436_435.out
            have hcz19_0 : wc.cell? ⟨gb435, 0, none⟩ = some (.int .i64 a0_0) := (blk_cell BK435.out 0).trans rfl
            have hcz19_1 : wc.cell? ⟨gb435, 1, none⟩ = some (.int .i64 a0_1) := (blk_cell BK435.out 1).trans rfl
            have hcz19_2 : wc.cell? ⟨gb435, 2, none⟩ = some (.int .i64 a0_2) := (blk_cell BK435.out 2).trans rfl
            have hcz19_3 : wc.cell? ⟨gb435, 3, none⟩ = some (.int .i64 a0_3) := (blk_cell BK435.out 3).trans rfl
            have hcz19_4 : wc.cell? ⟨gb435, 4, none⟩ = some (.int .i64 a0_4) := (blk_cell BK435.out 4).trans rfl
            have hcz19_5 : wc.cell? ⟨gb435, 5, none⟩ = some (.int .i64 a0_5) := (blk_cell BK435.out 5).trans rfl
            have hfz19_0 := blk_frozen BK435.out 0
            have hfz19_1 := blk_frozen BK435.out 1
            have hfz19_2 := blk_frozen BK435.out 2
            have hfz19_3 := blk_frozen BK435.out 3
            have hfz19_4 := blk_frozen BK435.out 4
            have hfz19_5 := blk_frozen BK435.out 5
            have hcz20_0 : wc.cell? ⟨gb436, 0, none⟩ = some (.int .i64 0) := (blk_cell BK436.out 0).trans rfl
            have hcz20_1 : wc.cell? ⟨gb436, 1, none⟩ = some (.int .i64 0) := (blk_cell BK436.out 1).trans rfl
            have hcz20_2 : wc.cell? ⟨gb436, 2, none⟩ = some (.int .i64 0) := (blk_cell BK436.out 2).trans rfl
            have hcz20_3 : wc.cell? ⟨gb436, 3, none⟩ = some (.int .i64 0) := (blk_cell BK436.out 3).trans rfl
            have hcz20_4 : wc.cell? ⟨gb436, 4, none⟩ = some (.int .i64 0) := (blk_cell BK436.out 4).trans rfl
            have hcz20_5 : wc.cell? ⟨gb436, 5, none⟩ = some (.int .i64 0) := (blk_cell BK436.out 5).trans rfl
            have hfz20_0 := blk_frozen BK436.out 0
            have hfz20_1 := blk_frozen BK436.out 1
            have hfz20_2 := blk_frozen BK436.out 2
            have hfz20_3 := blk_frozen BK436.out 3
            have hfz20_4 := blk_frozen BK436.out 4
            have hfz20_5 := blk_frozen BK436.out 5
            go_wp2
            refine bodyPost_ret (results_ct rfl _ _ gb436 53 #[.int .i64 a0_0, .int .i64 a0_1, .int .i64 2, .int .i64 (wrap64 (a0_3 + 1)), .int .i64 a0_4, .int .i64 a0_5] (0, 0) _ rfl (by (with_reducible repeat (first | refine blk_drewN ?_ _ | refine blk_drew ?_ | refine blk_alloc ?_ _)); refine blk_put (cs := #[.int .i64 a0_0, .int .i64 a0_1, .int .i64 2, .int .i64 (wrap64 (a0_3 + 1)), .int .i64 a0_4, .int .i64 0]) ?_ 5 _ rfl; (with_reducible repeat (first | refine blk_drewN ?_ _ | refine blk_drew ?_ | refine blk_alloc ?_ _)); refine blk_put (cs := #[.int .i64 a0_0, .int .i64 a0_1, .int .i64 2, .int .i64 (wrap64 (a0_3 + 1)), .int .i64 0, .int .i64 0]) ?_ 4 _ rfl; (with_reducible repeat (first | refine blk_drewN ?_ _ | refine blk_drew ?_ | refine blk_alloc ?_ _)); refine blk_put (cs := #[.int .i64 a0_0, .int .i64 a0_1, .int .i64 2, .int .i64 0, .int .i64 0, .int .i64 0]) ?_ 3 _ rfl; (with_reducible repeat (first | refine blk_drewN ?_ _ | refine blk_drew ?_ | refine blk_alloc ?_ _)); refine blk_put (cs := #[.int .i64 a0_0, .int .i64 a0_1, .int .i64 0, .int .i64 0, .int .i64 0, .int .i64 0]) ?_ 2 _ rfl; (with_reducible repeat (first | refine blk_drewN ?_ _ | refine blk_drew ?_ | refine blk_alloc ?_ _)); refine blk_put (cs := #[.int .i64 a0_0, .int .i64 0, .int .i64 0, .int .i64 0, .int .i64 0, .int .i64 0]) ?_ 1 _ rfl; (with_reducible repeat (first | refine blk_drewN ?_ _ | refine blk_drew ?_ | refine blk_alloc ?_ _)); refine blk_put (cs := #[.int .i64 0, .int .i64 0, .int .i64 0, .int .i64 0, .int .i64 0, .int .i64 0]) ?_ 0 _ rfl; (with_reducible repeat (first | refine blk_drewN ?_ _ | refine blk_drew ?_ | refine blk_alloc ?_ _)); refine blk_far ?_ NB436_435.out _; (with_reducible repeat (first | refine blk_drewN ?_ _ | refine blk_drew ?_ | refine blk_alloc ?_ _)); refine blk_far ?_ NB436_435.out _; (with_reducible repeat (first | refine blk_drewN ?_ _ | refine blk_drew ?_ | refine blk_alloc ?_ _)); exact BK436.out) Try.underlying53 rfl (by kernel_rfl)) rfl ?_
            exact ⟨by first | rfl | (simp [errW_none, errW_some] <;> rfl) | (simp [*, errW_none, errW_some] <;> rfl), by repeat (first | (with_reducible first | exact HB.out | apply below_alloc | apply pw_below_drewN | apply below_drew1 | refine below_set ?_ GE435.out | refine below_set ?_ GE436.out) | exact HB.out)⟩
          · rw [if_neg c17] at H
            have c17b0 : (a1 == 1) = false := beq_eq_false_iff_ne.mpr c17
            have c17b1 : (a1 != 1) = true := bne_iff_ne.mpr c17
            by_cases c21 : a1 = 2
            · rw [if_pos c21] at H
              have c21b0 : (a1 == 2) = true := beq_iff_eq.mpr c21
              have c21b1 : (a1 != 2) = false := bne_eq_false_iff_eq.mpr c21
              clear c21
              simp only [Option.some.injEq, Prod.mk.injEq] at H
              obtain ⟨rfl, rfl, rfl, rfl, rfl, rfl, rfl⟩ := H
              have hnb22 := NB435_436.out
              have hnc22 := NB436_435.out
              have hcz23_0 : wc.cell? ⟨gb435, 0, none⟩ = some (.int .i64 a0_0) := (blk_cell BK435.out 0).trans rfl
              have hcz23_1 : wc.cell? ⟨gb435, 1, none⟩ = some (.int .i64 a0_1) := (blk_cell BK435.out 1).trans rfl
              have hcz23_2 : wc.cell? ⟨gb435, 2, none⟩ = some (.int .i64 a0_2) := (blk_cell BK435.out 2).trans rfl
              have hcz23_3 : wc.cell? ⟨gb435, 3, none⟩ = some (.int .i64 a0_3) := (blk_cell BK435.out 3).trans rfl
              have hcz23_4 : wc.cell? ⟨gb435, 4, none⟩ = some (.int .i64 a0_4) := (blk_cell BK435.out 4).trans rfl
              have hcz23_5 : wc.cell? ⟨gb435, 5, none⟩ = some (.int .i64 a0_5) := (blk_cell BK435.out 5).trans rfl
              have hfz23_0 := blk_frozen BK435.out 0
              have hfz23_1 := blk_frozen BK435.out 1
              have hfz23_2 := blk_frozen BK435.out 2
              have hfz23_3 := blk_frozen BK435.out 3
              have hfz23_4 := blk_frozen BK435.out 4
              have hfz23_5 := blk_frozen BK435.out 5
              have hcz24_0 : wc.cell? ⟨gb436, 0, none⟩ = some (.int .i64 0) := (blk_cell BK436.out 0).trans rfl
              have hcz24_1 : wc.cell? ⟨gb436, 1, none⟩ = some (.int .i64 0) := (blk_cell BK436.out 1).trans rfl
              have hcz24_2 : wc.cell? ⟨gb436, 2, none⟩ = some (.int .i64 0) := (blk_cell BK436.out 2).trans rfl
              have hcz24_3 : wc.cell? ⟨gb436, 3, none⟩ = some (.int .i64 0) := (blk_cell BK436.out 3).trans rfl
              have hcz24_4 : wc.cell? ⟨gb436, 4, none⟩ = some (.int .i64 0) := (blk_cell BK436.out 4).trans rfl
              have hcz24_5 : wc.cell? ⟨gb436, 5, none⟩ = some (.int .i64 0) := (blk_cell BK436.out 5).trans rfl
              have hfz24_0 := blk_frozen BK436.out 0
              have hfz24_1 := blk_frozen BK436.out 1
              have hfz24_2 := blk_frozen BK436.out 2
              have hfz24_3 := blk_frozen BK436.out 3
              have hfz24_4 := blk_frozen BK436.out 4
              have hfz24_5 := blk_frozen BK436.out 5
              go_wp2
              refine bodyPost_ret (results_ct rfl _ _ gb436 53 #[.int .i64 a0_0, .int .i64 a0_1, .int .i64 1, .int .i64 a0_3, .int .i64 a0_4, .int .i64 (wrap64 (a0_5 + 1))] (0, 0) _ rfl (by (with_reducible repeat (first | refine blk_drewN ?_ _ | refine blk_drew ?_ | refine blk_alloc ?_ _)); refine blk_put (cs := #[.int .i64 a0_0, .int .i64 a0_1, .int .i64 1, .int .i64 a0_3, .int .i64 a0_4, .int .i64 0]) ?_ 5 _ rfl; (with_reducible repeat (first | refine blk_drewN ?_ _ | refine blk_drew ?_ | refine blk_alloc ?_ _)); refine blk_put (cs := #[.int .i64 a0_0, .int .i64 a0_1, .int .i64 1, .int .i64 a0_3, .int .i64 0, .int .i64 0]) ?_ 4 _ rfl; (with_reducible repeat (first | refine blk_drewN ?_ _ | refine blk_drew ?_ | refine blk_alloc ?_ _)); refine blk_put (cs := #[.int .i64 a0_0, .int .i64 a0_1, .int .i64 1, .int .i64 0, .int .i64 0, .int .i64 0]) ?_ 3 _ rfl; (with_reducible repeat (first | refine blk_drewN ?_ _ | refine blk_drew ?_ | refine blk_alloc ?_ _)); refine blk_put (cs := #[.int .i64 a0_0, .int .i64 a0_1, .int .i64 0, .int .i64 0, .int .i64 0, .int .i64 0]) ?_ 2 _ rfl; (with_reducible repeat (first | refine blk_drewN ?_ _ | refine blk_drew ?_ | refine blk_alloc ?_ _)); refine blk_put (cs := #[.int .i64 a0_0, .int .i64 0, .int .i64 0, .int .i64 0, .int .i64 0, .int .i64 0]) ?_ 1 _ rfl; (with_reducible repeat (first | refine blk_drewN ?_ _ | refine blk_drew ?_ | refine blk_alloc ?_ _)); refine blk_put (cs := #[.int .i64 0, .int .i64 0, .int .i64 0, .int .i64 0, .int .i64 0, .int .i64 0]) ?_ 0 _ rfl; (with_reducible repeat (first | refine blk_drewN ?_ _ | refine blk_drew ?_ | refine blk_alloc ?_ _)); refine blk_far ?_ NB436_435.out _; (with_reducible repeat (first | refine blk_drewN ?_ _ | refine blk_drew ?_ | refine blk_alloc ?_ _)); refine blk_far ?_ NB436_435.out _; (with_reducible repeat (first | refine blk_drewN ?_ _ | refine blk_drew ?_ | refine blk_alloc ?_ _)); exact BK436.out) Try.underlying53 rfl (by kernel_rfl)) rfl ?_
              exact ⟨by first | rfl | (simp [errW_none, errW_some] <;> rfl) | (simp [*, errW_none, errW_some] <;> rfl), by repeat (first | (with_reducible first | exact HB.out | apply below_alloc | apply pw_below_drewN | apply below_drew1 | refine below_set ?_ GE435.out | refine below_set ?_ GE436.out) | exact HB.out)⟩
            · rw [if_neg c21] at H
              have c21b0 : (a1 == 2) = false := beq_eq_false_iff_ne.mpr c21
              have c21b1 : (a1 != 2) = true := bne_iff_ne.mpr c21
              by_cases c25 : a1 = 3
              · rw [if_pos c25] at H
                have c25b0 : (a1 == 3) = true := beq_iff_eq.mpr c25
                have c25b1 : (a1 != 3) = false := bne_eq_false_iff_eq.mpr c25
                clear c25
                simp only [Option.some.injEq, Prod.mk.injEq] at H
                obtain ⟨rfl, rfl, rfl, rfl, rfl, rfl, rfl⟩ := H
                have hnb26 := NB435_436.out
                have hnc26 := NB436_435.out
                have hcz27_0 : wc.cell? ⟨gb435, 0, none⟩ = some (.int .i64 a0_0) := (blk_cell BK435.out 0).trans rfl
                have hcz27_1 : wc.cell? ⟨gb435, 1, none⟩ = some (.int .i64 a0_1) := (blk_cell BK435.out 1).trans rfl
                have hcz27_2 : wc.cell? ⟨gb435, 2, none⟩ = some (.int .i64 a0_2) := (blk_cell BK435.out 2).trans rfl
                have hcz27_3 : wc.cell? ⟨gb435, 3, none⟩ = some (.int .i64 a0_3) := (blk_cell BK435.out 3).trans rfl
                have hcz27_4 : wc.cell? ⟨gb435, 4, none⟩ = some (.int .i64 a0_4) := (blk_cell BK435.out 4).trans rfl
                have hcz27_5 : wc.cell? ⟨gb435, 5, none⟩ = some (.int .i64 a0_5) := (blk_cell BK435.out 5).trans rfl
                have hfz27_0 := blk_frozen BK435.out 0
                have hfz27_1 := blk_frozen BK435.out 1
                have hfz27_2 := blk_frozen BK435.out 2
                have hfz27_3 := blk_frozen BK435.out 3
                have hfz27_4 := blk_frozen BK435.out 4
                have hfz27_5 := blk_frozen BK435.out 5
                have hcz28_0 : wc.cell? ⟨gb436, 0, none⟩ = some (.int .i64 0) := (blk_cell BK436.out 0).trans rfl
                have hcz28_1 : wc.cell? ⟨gb436, 1, none⟩ = some (.int .i64 0) := (blk_cell BK436.out 1).trans rfl
                have hcz28_2 : wc.cell? ⟨gb436, 2, none⟩ = some (.int .i64 0) := (blk_cell BK436.out 2).trans rfl
                have hcz28_3 : wc.cell? ⟨gb436, 3, none⟩ = some (.int .i64 0) := (blk_cell BK436.out 3).trans rfl
                have hcz28_4 : wc.cell? ⟨gb436, 4, none⟩ = some (.int .i64 0) := (blk_cell BK436.out 4).trans rfl
                have hcz28_5 : wc.cell? ⟨gb436, 5, none⟩ = some (.int .i64 0) := (blk_cell BK436.out 5).trans rfl
                have hfz28_0 := blk_frozen BK436.out 0
                have hfz28_1 := blk_frozen BK436.out 1
                have hfz28_2 := blk_frozen BK436.out 2
                have hfz28_3 := blk_frozen BK436.out 3
                have hfz28_4 := blk_frozen BK436.out 4
                have hfz28_5 := blk_frozen BK436.out 5
                go_wp2
                refine bodyPost_ret (results_ct rfl _ _ gb436 53 #[.int .i64 a0_0, .int .i64 a0_1, .int .i64 3, .int .i64 a0_3, .int .i64 a0_4, .int .i64 a0_5] (0, 0) _ rfl (by (with_reducible repeat (first | refine blk_drewN ?_ _ | refine blk_drew ?_ | refine blk_alloc ?_ _)); refine blk_put (cs := #[.int .i64 a0_0, .int .i64 a0_1, .int .i64 3, .int .i64 a0_3, .int .i64 a0_4, .int .i64 0]) ?_ 5 _ rfl; (with_reducible repeat (first | refine blk_drewN ?_ _ | refine blk_drew ?_ | refine blk_alloc ?_ _)); refine blk_put (cs := #[.int .i64 a0_0, .int .i64 a0_1, .int .i64 3, .int .i64 a0_3, .int .i64 0, .int .i64 0]) ?_ 4 _ rfl; (with_reducible repeat (first | refine blk_drewN ?_ _ | refine blk_drew ?_ | refine blk_alloc ?_ _)); refine blk_put (cs := #[.int .i64 a0_0, .int .i64 a0_1, .int .i64 3, .int .i64 0, .int .i64 0, .int .i64 0]) ?_ 3 _ rfl; (with_reducible repeat (first | refine blk_drewN ?_ _ | refine blk_drew ?_ | refine blk_alloc ?_ _)); refine blk_put (cs := #[.int .i64 a0_0, .int .i64 a0_1, .int .i64 0, .int .i64 0, .int .i64 0, .int .i64 0]) ?_ 2 _ rfl; (with_reducible repeat (first | refine blk_drewN ?_ _ | refine blk_drew ?_ | refine blk_alloc ?_ _)); refine blk_put (cs := #[.int .i64 a0_0, .int .i64 0, .int .i64 0, .int .i64 0, .int .i64 0, .int .i64 0]) ?_ 1 _ rfl; (with_reducible repeat (first | refine blk_drewN ?_ _ | refine blk_drew ?_ | refine blk_alloc ?_ _)); refine blk_put (cs := #[.int .i64 0, .int .i64 0, .int .i64 0, .int .i64 0, .int .i64 0, .int .i64 0]) ?_ 0 _ rfl; (with_reducible repeat (first | refine blk_drewN ?_ _ | refine blk_drew ?_ | refine blk_alloc ?_ _)); refine blk_far ?_ NB436_435.out _; (with_reducible repeat (first | refine blk_drewN ?_ _ | refine blk_drew ?_ | refine blk_alloc ?_ _)); exact BK436.out) Try.underlying53 rfl (by kernel_rfl)) rfl ?_
                exact ⟨by first | rfl | (simp [errW_none, errW_some] <;> rfl) | (simp [*, errW_none, errW_some] <;> rfl), by repeat (first | (with_reducible first | exact HB.out | apply below_alloc | apply pw_below_drewN | apply below_drew1 | refine below_set ?_ GE435.out | refine below_set ?_ GE436.out) | exact HB.out)⟩
              · rw [if_neg c25] at H
                have c25b0 : (a1 == 3) = false := beq_eq_false_iff_ne.mpr c25
                have c25b1 : (a1 != 3) = true := bne_iff_ne.mpr c25
                by_cases c29 : a1 = 6
                · rw [if_pos c29] at H
                  have c29b0 : (a1 == 6) = true := beq_iff_eq.mpr c29
                  have c29b1 : (a1 != 6) = false := bne_eq_false_iff_eq.mpr c29
                  clear c29
                  by_cases c30 : (wrap64 (a0_4 + 1)) ≥ a0_0
                  · rw [if_pos c30] at H
                    have c30b0 : decide (a0_0 ≤ (wrap64 (a0_4 + 1))) = true := decide_eq_true c30
                    clear c30
                    simp only [Option.some.injEq, Prod.mk.injEq] at H
                    obtain ⟨rfl, rfl, rfl, rfl, rfl, rfl, rfl⟩ := H
                    have hnb31 := NB435_436.out
                    have hnc31 := NB436_435.out
                    have hcz32_0 : wc.cell? ⟨gb435, 0, none⟩ = some (.int .i64 a0_0) := (blk_cell BK435.out 0).trans rfl
                    have hcz32_1 : wc.cell? ⟨gb435, 1, none⟩ = some (.int .i64 a0_1) := (blk_cell BK435.out 1).trans rfl
                    have hcz32_2 : wc.cell? ⟨gb435, 2, none⟩ = some (.int .i64 a0_2) := (blk_cell BK435.out 2).trans rfl
                    have hcz32_3 : wc.cell? ⟨gb435, 3, none⟩ = some (.int .i64 a0_3) := (blk_cell BK435.out 3).trans rfl
                    have hcz32_4 : wc.cell? ⟨gb435, 4, none⟩ = some (.int .i64 a0_4) := (blk_cell BK435.out 4).trans rfl
                    have hcz32_5 : wc.cell? ⟨gb435, 5, none⟩ = some (.int .i64 a0_5) := (blk_cell BK435.out 5).trans rfl
                    have hfz32_0 := blk_frozen BK435.out 0
                    have hfz32_1 := blk_frozen BK435.out 1
                    have hfz32_2 := blk_frozen BK435.out 2
                    have hfz32_3 := blk_frozen BK435.out 3
                    have hfz32_4 := blk_frozen BK435.out 4
                    have hfz32_5 := blk_frozen BK435.out 5
                    have hcz33_0 : wc.cell? ⟨gb436, 0, none⟩ = some (.int .i64 0) := (blk_cell BK436.out 0).trans rfl
                    have hcz33_1 : wc.cell? ⟨gb436, 1, none⟩ = some (.int .i64 0) := (blk_cell BK436.out 1).trans rfl
                    have hcz33_2 : wc.cell? ⟨gb436, 2, none⟩ = some (.int .i64 0) := (blk_cell BK436.out 2).trans rfl
                    have hcz33_3 : wc.cell? ⟨gb436, 3, none⟩ = some (.int .i64 0) := (blk_cell BK436.out 3).trans rfl
                    have hcz33_4 : wc.cell? ⟨gb436, 4, none⟩ = some (.int .i64 0) := (blk_cell BK436.out 4).trans rfl
                    have hcz33_5 : wc.cell? ⟨gb436, 5, none⟩ = some (.int .i64 0) := (blk_cell BK436.out 5).trans rfl
                    have hfz33_0 := blk_frozen BK436.out 0
                    have hfz33_1 := blk_frozen BK436.out 1
                    have hfz33_2 := blk_frozen BK436.out 2
                    have hfz33_3 := blk_frozen BK436.out 3
                    have hfz33_4 := blk_frozen BK436.out 4
                    have hfz33_5 := blk_frozen BK436.out 5
                    go_wp2
                    refine bodyPost_ret (results_ct rfl _ _ gb436 53 #[.int .i64 a0_0, .int .i64 a0_1, .int .i64 6, .int .i64 a0_3, .int .i64 (wrap64 (a0_4 + 1)), .int .i64 a0_5] (0, 0) _ rfl (by (with_reducible repeat (first | refine blk_drewN ?_ _ | refine blk_drew ?_ | refine blk_alloc ?_ _)); refine blk_put (cs := #[.int .i64 a0_0, .int .i64 a0_1, .int .i64 6, .int .i64 a0_3, .int .i64 (wrap64 (a0_4 + 1)), .int .i64 0]) ?_ 5 _ rfl; (with_reducible repeat (first | refine blk_drewN ?_ _ | refine blk_drew ?_ | refine blk_alloc ?_ _)); refine blk_put (cs := #[.int .i64 a0_0, .int .i64 a0_1, .int .i64 6, .int .i64 a0_3, .int .i64 0, .int .i64 0]) ?_ 4 _ rfl; (with_reducible repeat (first | refine blk_drewN ?_ _ | refine blk_drew ?_ | refine blk_alloc ?_ _)); refine blk_put (cs := #[.int .i64 a0_0, .int .i64 a0_1, .int .i64 6, .int .i64 0, .int .i64 0, .int .i64 0]) ?_ 3 _ rfl; (with_reducible repeat (first | refine blk_drewN ?_ _ | refine blk_drew ?_ | refine blk_alloc ?_ _)); refine blk_put (cs := #[.int .i64 a0_0, .int .i64 a0_1, .int .i64 0, .int .i64 0, .int .i64 0, .int .i64 0]) ?_ 2 _ rfl; (with_reducible repeat (first | refine blk_drewN ?_ _ | refine blk_drew ?_ | refine blk_alloc ?_ _)); refine blk_put (cs := #[.int .i64 a0_0, .int .i64 0, .int .i64 0, .int .i64 0, .int .i64 0, .int .i64 0]) ?_ 1 _ rfl; (with_reducible repeat (first | refine blk_drewN ?_ _ | refine blk_drew ?_ | refine blk_alloc ?_ _)); refine blk_put (cs := #[.int .i64 0, .int .i64 0, .int .i64 0, .int .i64 0, .int .i64 0, .int .i64 0]) ?_ 0 _ rfl; (with_reducible repeat (first | refine blk_drewN ?_ _ | refine blk_drew ?_ | refine blk_alloc ?_ _)); refine blk_far ?_ NB436_435.out _; (with_reducible repeat (first | refine blk_drewN ?_ _ | refine blk_drew ?_ | refine blk_alloc ?_ _)); refine blk_far ?_ NB436_435.out _; (with_reducible repeat (first | refine blk_drewN ?_ _ | refine blk_drew ?_ | refine blk_alloc ?_ _)); refine blk_far ?_ NB436_435.out _; (with_reducible repeat (first | refine blk_drewN ?_ _ | refine blk_drew ?_ | refine blk_alloc ?_ _)); exact BK436.out) Try.underlying53 rfl (by kernel_rfl)) rfl ?_
                    exact ⟨by first | rfl | (simp [errW_none, errW_some] <;> rfl) | (simp [*, errW_none, errW_some] <;> rfl), by repeat (first | (with_reducible first | exact HB.out | apply below_alloc | apply pw_below_drewN | apply below_drew1 | refine below_set ?_ GE435.out | refine below_set ?_ GE436.out) | exact HB.out)⟩
                  · rw [if_neg c30] at H
                    have c30b0 : decide (a0_0 ≤ (wrap64 (a0_4 + 1))) = false := decide_eq_false c30
                    clear c30
                    simp only [Option.some.injEq, Prod.mk.injEq] at H
                    obtain ⟨rfl, rfl, rfl, rfl, rfl, rfl, rfl⟩ := H
                    have hnb34 := NB435_436.out
                    have hnc34 := NB436_435.out
                    have hcz35_0 : wc.cell? ⟨gb435, 0, none⟩ = some (.int .i64 a0_0) := (blk_cell BK435.out 0).trans rfl
                    have hcz35_1 : wc.cell? ⟨gb435, 1, none⟩ = some (.int .i64 a0_1) := (blk_cell BK435.out 1).trans rfl
                    have hcz35_2 : wc.cell? ⟨gb435, 2, none⟩ = some (.int .i64 a0_2) := (blk_cell BK435.out 2).trans rfl
                    have hcz35_3 : wc.cell? ⟨gb435, 3, none⟩ = some (.int .i64 a0_3) := (blk_cell BK435.out 3).trans rfl
                    have hcz35_4 : wc.cell? ⟨gb435, 4, none⟩ = some (.int .i64 a0_4) := (blk_cell BK435.out 4).trans rfl
                    have hcz35_5 : wc.cell? ⟨gb435, 5, none⟩ = some (.int .i64 a0_5) := (blk_cell BK435.out 5).trans rfl
                    have hfz35_0 := blk_frozen BK435.out 0
                    have hfz35_1 := blk_frozen BK435.out 1
                    have hfz35_2 := blk_frozen BK435.out 2
                    have hfz35_3 := blk_frozen BK435.out 3
                    have hfz35_4 := blk_frozen BK435.out 4
                    have hfz35_5 := blk_frozen BK435.out 5
                    have hcz36_0 : wc.cell? ⟨gb436, 0, none⟩ = some (.int .i64 0) := (blk_cell BK436.out 0).trans rfl
                    have hcz36_1 : wc.cell? ⟨gb436, 1, none⟩ = some (.int .i64 0) := (blk_cell BK436.out 1).trans rfl
                    have hcz36_2 : wc.cell? ⟨gb436, 2, none⟩ = some (.int .i64 0) := (blk_cell BK436.out 2).trans rfl
                    have hcz36_3 : wc.cell? ⟨gb436, 3, none⟩ = some (.int .i64 0) := (blk_cell BK436.out 3).trans rfl
                    have hcz36_4 : wc.cell? ⟨gb436, 4, none⟩ = some (.int .i64 0) := (blk_cell BK436.out 4).trans rfl
                    have hcz36_5 : wc.cell? ⟨gb436, 5, none⟩ = some (.int .i64 0) := (blk_cell BK436.out 5).trans rfl
                    have hfz36_0 := blk_frozen BK436.out 0
                    have hfz36_1 := blk_frozen BK436.out 1
                    have hfz36_2 := blk_frozen BK436.out 2
                    have hfz36_3 := blk_frozen BK436.out 3
                    have hfz36_4 := blk_frozen BK436.out 4
                    have hfz36_5 := blk_frozen BK436.out 5
                    go_wp2
                    refine bodyPost_ret (results_ct rfl _ _ gb436 53 #[.int .i64 a0_0, .int .i64 a0_1, .int .i64 4, .int .i64 a0_3, .int .i64 (wrap64 (a0_4 + 1)), .int .i64 a0_5] (0, 0) _ rfl (by (with_reducible repeat (first | refine blk_drewN ?_ _ | refine blk_drew ?_ | refine blk_alloc ?_ _)); refine blk_put (cs := #[.int .i64 a0_0, .int .i64 a0_1, .int .i64 4, .int .i64 a0_3, .int .i64 (wrap64 (a0_4 + 1)), .int .i64 0]) ?_ 5 _ rfl; (with_reducible repeat (first | refine blk_drewN ?_ _ | refine blk_drew ?_ | refine blk_alloc ?_ _)); refine blk_put (cs := #[.int .i64 a0_0, .int .i64 a0_1, .int .i64 4, .int .i64 a0_3, .int .i64 0, .int .i64 0]) ?_ 4 _ rfl; (with_reducible repeat (first | refine blk_drewN ?_ _ | refine blk_drew ?_ | refine blk_alloc ?_ _)); refine blk_put (cs := #[.int .i64 a0_0, .int .i64 a0_1, .int .i64 4, .int .i64 0, .int .i64 0, .int .i64 0]) ?_ 3 _ rfl; (with_reducible repeat (first | refine blk_drewN ?_ _ | refine blk_drew ?_ | refine blk_alloc ?_ _)); refine blk_put (cs := #[.int .i64 a0_0, .int .i64 a0_1, .int .i64 0, .int .i64 0, .int .i64 0, .int .i64 0]) ?_ 2 _ rfl; (with_reducible repeat (first | refine blk_drewN ?_ _ | refine blk_drew ?_ | refine blk_alloc ?_ _)); refine blk_put (cs := #[.int .i64 a0_0, .int .i64 0, .int .i64 0, .int .i64 0, .int .i64 0, .int .i64 0]) ?_ 1 _ rfl; (with_reducible repeat (first | refine blk_drewN ?_ _ | refine blk_drew ?_ | refine blk_alloc ?_ _)); refine blk_put (cs := #[.int .i64 0, .int .i64 0, .int .i64 0, .int .i64 0, .int .i64 0, .int .i64 0]) ?_ 0 _ rfl; (with_reducible repeat (first | refine blk_drewN ?_ _ | refine blk_drew ?_ | refine blk_alloc ?_ _)); refine blk_far ?_ NB436_435.out _; (with_reducible repeat (first | refine blk_drewN ?_ _ | refine blk_drew ?_ | refine blk_alloc ?_ _)); refine blk_far ?_ NB436_435.out _; (with_reducible repeat (first | refine blk_drewN ?_ _ | refine blk_drew ?_ | refine blk_alloc ?_ _)); exact BK436.out) Try.underlying53 rfl (by kernel_rfl)) rfl ?_
                    exact ⟨by first | rfl | (simp [errW_none, errW_some] <;> rfl) | (simp [*, errW_none, errW_some] <;> rfl), by repeat (first | (with_reducible first | exact HB.out | apply below_alloc | apply pw_below_drewN | apply below_drew1 | refine below_set ?_ GE435.out | refine below_set ?_ GE436.out) | exact HB.out)⟩
                · rw [if_neg c29] at H
                  have c29b0 : (a1 == 6) = false := beq_eq_false_iff_ne.mpr c29
                  have c29b1 : (a1 != 6) = true := bne_iff_ne.mpr c29
                  by_cases c37 : a1 = 8
                  · rw [if_pos c37] at H
                    have c37b0 : (a1 == 8) = true := beq_iff_eq.mpr c37
                    have c37b1 : (a1 != 8) = false := bne_eq_false_iff_eq.mpr c37
                    clear c37
                    simp only [Option.some.injEq, Prod.mk.injEq] at H
                    obtain ⟨rfl, rfl, rfl, rfl, rfl, rfl, rfl⟩ := H
                    have hnb38 := NB435_436.out
                    have hnc38 := NB436_435.out
                    have hcz39_0 : wc.cell? ⟨gb435, 0, none⟩ = some (.int .i64 a0_0) := (blk_cell BK435.out 0).trans rfl
                    have hcz39_1 : wc.cell? ⟨gb435, 1, none⟩ = some (.int .i64 a0_1) := (blk_cell BK435.out 1).trans rfl
                    have hcz39_2 : wc.cell? ⟨gb435, 2, none⟩ = some (.int .i64 a0_2) := (blk_cell BK435.out 2).trans rfl
                    have hcz39_3 : wc.cell? ⟨gb435, 3, none⟩ = some (.int .i64 a0_3) := (blk_cell BK435.out 3).trans rfl
                    have hcz39_4 : wc.cell? ⟨gb435, 4, none⟩ = some (.int .i64 a0_4) := (blk_cell BK435.out 4).trans rfl
                    have hcz39_5 : wc.cell? ⟨gb435, 5, none⟩ = some (.int .i64 a0_5) := (blk_cell BK435.out 5).trans rfl
                    have hfz39_0 := blk_frozen BK435.out 0
                    have hfz39_1 := blk_frozen BK435.out 1
                    have hfz39_2 := blk_frozen BK435.out 2
                    have hfz39_3 := blk_frozen BK435.out 3
                    have hfz39_4 := blk_frozen BK435.out 4
                    have hfz39_5 := blk_frozen BK435.out 5
                    have hcz40_0 : wc.cell? ⟨gb436, 0, none⟩ = some (.int .i64 0) := (blk_cell BK436.out 0).trans rfl
                    have hcz40_1 : wc.cell? ⟨gb436, 1, none⟩ = some (.int .i64 0) := (blk_cell BK436.out 1).trans rfl
                    have hcz40_2 : wc.cell? ⟨gb436, 2, none⟩ = some (.int .i64 0) := (blk_cell BK436.out 2).trans rfl
                    have hcz40_3 : wc.cell? ⟨gb436, 3, none⟩ = some (.int .i64 0) := (blk_cell BK436.out 3).trans rfl
                    have hcz40_4 : wc.cell? ⟨gb436, 4, none⟩ = some (.int .i64 0) := (blk_cell BK436.out 4).trans rfl
                    have hcz40_5 : wc.cell? ⟨gb436, 5, none⟩ = some (.int .i64 0) := (blk_cell BK436.out 5).trans rfl
                    have hfz40_0 := blk_frozen BK436.out 0
                    have hfz40_1 := blk_frozen BK436.out 1
                    have hfz40_2 := blk_frozen BK436.out 2
                    have hfz40_3 := blk_frozen BK436.out 3
                    have hfz40_4 := blk_frozen BK436.out 4
                    have hfz40_5 := blk_frozen BK436.out 5
                    go_wp2
                    refine bodyPost_ret (results_ct rfl _ _ gb436 53 #[.int .i64 a0_0, .int .i64 a0_1, .int .i64 5, .int .i64 a0_3, .int .i64 a0_4, .int .i64 a0_5] (0, 0) _ rfl (by (with_reducible repeat (first | refine blk_drewN ?_ _ | refine blk_drew ?_ | refine blk_alloc ?_ _)); refine blk_put (cs := #[.int .i64 a0_0, .int .i64 a0_1, .int .i64 5, .int .i64 a0_3, .int .i64 a0_4, .int .i64 0]) ?_ 5 _ rfl; (with_reducible repeat (first | refine blk_drewN ?_ _ | refine blk_drew ?_ | refine blk_alloc ?_ _)); refine blk_put (cs := #[.int .i64 a0_0, .int .i64 a0_1, .int .i64 5, .int .i64 a0_3, .int .i64 0, .int .i64 0]) ?_ 4 _ rfl; (with_reducible repeat (first | refine blk_drewN ?_ _ | refine blk_drew ?_ | refine blk_alloc ?_ _)); refine blk_put (cs := #[.int .i64 a0_0, .int .i64 a0_1, .int .i64 5, .int .i64 0, .int .i64 0, .int .i64 0]) ?_ 3 _ rfl; (with_reducible repeat (first | refine blk_drewN ?_ _ | refine blk_drew ?_ | refine blk_alloc ?_ _)); refine blk_put (cs := #[.int .i64 a0_0, .int .i64 a0_1, .int .i64 0, .int .i64 0, .int .i64 0, .int .i64 0]) ?_ 2 _ rfl; (with_reducible repeat (first | refine blk_drewN ?_ _ | refine blk_drew ?_ | refine blk_alloc ?_ _)); refine blk_put (cs := #[.int .i64 a0_0, .int .i64 0, .int .i64 0, .int .i64 0, .int .i64 0, .int .i64 0]) ?_ 1 _ rfl; (with_reducible repeat (first | refine blk_drewN ?_ _ | refine blk_drew ?_ | refine blk_alloc ?_ _)); refine blk_put (cs := #[.int .i64 0, .int .i64 0, .int .i64 0, .int .i64 0, .int .i64 0, .int .i64 0]) ?_ 0 _ rfl; (with_reducible repeat (first | refine blk_drewN ?_ _ | refine blk_drew ?_ | refine blk_alloc ?_ _)); refine blk_far ?_ NB436_435.out _; (with_reducible repeat (first | refine blk_drewN ?_ _ | refine blk_drew ?_ | refine blk_alloc ?_ _)); exact BK436.out) Try.underlying53 rfl (by kernel_rfl)) rfl ?_
                    exact ⟨by first | rfl | (simp [errW_none, errW_some] <;> rfl) | (simp [*, errW_none, errW_some] <;> rfl), by repeat (first | (with_reducible first | exact HB.out | apply below_alloc | apply pw_below_drewN | apply below_drew1 | refine below_set ?_ GE435.out | refine below_set ?_ GE436.out) | exact HB.out)⟩
                  · rw [if_neg c37] at H
                    have c37b0 : (a1 == 8) = false := beq_eq_false_iff_ne.mpr c37
                    have c37b1 : (a1 != 8) = true := bne_iff_ne.mpr c37
                    by_cases c41 : a1 = 9
                    · rw [if_pos c41] at H
                      have c41b0 : (a1 == 9) = true := beq_iff_eq.mpr c41
                      have c41b1 : (a1 != 9) = false := bne_eq_false_iff_eq.mpr c41
                      clear c41
                      simp only [Option.some.injEq, Prod.mk.injEq] at H
                      obtain ⟨rfl, rfl, rfl, rfl, rfl, rfl, rfl⟩ := H
                      have hnb42 := NB435_436.out
                      have hnc42 := NB436_435.out
                      have hcz43_0 : wc.cell? ⟨gb435, 0, none⟩ = some (.int .i64 a0_0) := (blk_cell BK435.out 0).trans rfl
                      have hcz43_1 : wc.cell? ⟨gb435, 1, none⟩ = some (.int .i64 a0_1) := (blk_cell BK435.out 1).trans rfl
                      have hcz43_2 : wc.cell? ⟨gb435, 2, none⟩ = some (.int .i64 a0_2) := (blk_cell BK435.out 2).trans rfl
                      have hcz43_3 : wc.cell? ⟨gb435, 3, none⟩ = some (.int .i64 a0_3) := (blk_cell BK435.out 3).trans rfl
                      have hcz43_4 : wc.cell? ⟨gb435, 4, none⟩ = some (.int .i64 a0_4) := (blk_cell BK435.out 4).trans rfl
                      have hcz43_5 : wc.cell? ⟨gb435, 5, none⟩ = some (.int .i64 a0_5) := (blk_cell BK435.out 5).trans rfl
                      have hfz43_0 := blk_frozen BK435.out 0
                      have hfz43_1 := blk_frozen BK435.out 1
                      have hfz43_2 := blk_frozen BK435.out 2
                      have hfz43_3 := blk_frozen BK435.out 3
                      have hfz43_4 := blk_frozen BK435.out 4
                      have hfz43_5 := blk_frozen BK435.out 5
                      have hcz44_0 : wc.cell? ⟨gb436, 0, none⟩ = some (.int .i64 0) := (blk_cell BK436.out 0).trans rfl
                      have hcz44_1 : wc.cell? ⟨gb436, 1, none⟩ = some (.int .i64 0) := (blk_cell BK436.out 1).trans rfl
                      have hcz44_2 : wc.cell? ⟨gb436, 2, none⟩ = some (.int .i64 0) := (blk_cell BK436.out 2).trans rfl
                      have hcz44_3 : wc.cell? ⟨gb436, 3, none⟩ = some (.int .i64 0) := (blk_cell BK436.out 3).trans rfl
                      have hcz44_4 : wc.cell? ⟨gb436, 4, none⟩ = some (.int .i64 0) := (blk_cell BK436.out 4).trans rfl
                      have hcz44_5 : wc.cell? ⟨gb436, 5, none⟩ = some (.int .i64 0) := (blk_cell BK436.out 5).trans rfl
                      have hfz44_0 := blk_frozen BK436.out 0
                      have hfz44_1 := blk_frozen BK436.out 1
                      have hfz44_2 := blk_frozen BK436.out 2
                      have hfz44_3 := blk_frozen BK436.out 3
                      have hfz44_4 := blk_frozen BK436.out 4
                      have hfz44_5 := blk_frozen BK436.out 5
                      go_wp2
                      refine bodyPost_ret (results_ct rfl _ _ gb436 53 #[.int .i64 a0_0, .int .i64 a0_1, .int .i64 6, .int .i64 a0_3, .int .i64 a0_4, .int .i64 a0_5] (0, 0) _ rfl (by (with_reducible repeat (first | refine blk_drewN ?_ _ | refine blk_drew ?_ | refine blk_alloc ?_ _)); refine blk_put (cs := #[.int .i64 a0_0, .int .i64 a0_1, .int .i64 6, .int .i64 a0_3, .int .i64 a0_4, .int .i64 0]) ?_ 5 _ rfl; (with_reducible repeat (first | refine blk_drewN ?_ _ | refine blk_drew ?_ | refine blk_alloc ?_ _)); refine blk_put (cs := #[.int .i64 a0_0, .int .i64 a0_1, .int .i64 6, .int .i64 a0_3, .int .i64 0, .int .i64 0]) ?_ 4 _ rfl; (with_reducible repeat (first | refine blk_drewN ?_ _ | refine blk_drew ?_ | refine blk_alloc ?_ _)); refine blk_put (cs := #[.int .i64 a0_0, .int .i64 a0_1, .int .i64 6, .int .i64 0, .int .i64 0, .int .i64 0]) ?_ 3 _ rfl; (with_reducible repeat (first | refine blk_drewN ?_ _ | refine blk_drew ?_ | refine blk_alloc ?_ _)); refine blk_put (cs := #[.int .i64 a0_0, .int .i64 a0_1, .int .i64 0, .int .i64 0, .int .i64 0, .int .i64 0]) ?_ 2 _ rfl; (with_reducible repeat (first | refine blk_drewN ?_ _ | refine blk_drew ?_ | refine blk_alloc ?_ _)); refine blk_put (cs := #[.int .i64 a0_0, .int .i64 0, .int .i64 0, .int .i64 0, .int .i64 0, .int .i64 0]) ?_ 1 _ rfl; (with_reducible repeat (first | refine blk_drewN ?_ _ | refine blk_drew ?_ | refine blk_alloc ?_ _)); refine blk_put (cs := #[.int .i64 0, .int .i64 0, .int .i64 0, .int .i64 0, .int .i64 0, .int .i64 0]) ?_ 0 _ rfl; (with_reducible repeat (first | refine blk_drewN ?_ _ | refine blk_drew ?_ | refine blk_alloc ?_ _)); refine blk_far ?_ NB436_435.out _; (with_reducible repeat (first | refine blk_drewN ?_ _ | refine blk_drew ?_ | refine blk_alloc ?_ _)); exact BK436.out) Try.underlying53 rfl (by kernel_rfl)) rfl ?_
                      exact ⟨by first | rfl | (simp [errW_none, errW_some] <;> rfl) | (simp [*, errW_none, errW_some] <;> rfl), by repeat (first | (with_reducible first | exact HB.out | apply below_alloc | apply pw_below_drewN | apply below_drew1 | refine below_set ?_ GE435.out | refine below_set ?_ GE436.out) | exact HB.out)⟩
                    · rw [if_neg c41] at H
                      have c41b0 : (a1 == 9) = false := beq_eq_false_iff_ne.mpr c41
                      have c41b1 : (a1 != 9) = true := bne_iff_ne.mpr c41
                      by_cases c45 : a1 = 10
                      · rw [if_pos c45] at H
                        have c45b0 : (a1 == 10) = true := beq_iff_eq.mpr c45
                        have c45b1 : (a1 != 10) = false := bne_eq_false_iff_eq.mpr c45
                        clear c45
                        simp only [Option.some.injEq, Prod.mk.injEq] at H
                        obtain ⟨rfl, rfl, rfl, rfl, rfl, rfl, rfl⟩ := H
                        have hnb46 := NB435_436.out
                        have hnc46 := NB436_435.out
                        have hcz47_0 : wc.cell? ⟨gb435, 0, none⟩ = some (.int .i64 a0_0) := (blk_cell BK435.out 0).trans rfl
                        have hcz47_1 : wc.cell? ⟨gb435, 1, none⟩ = some (.int .i64 a0_1) := (blk_cell BK435.out 1).trans rfl
                        have hcz47_2 : wc.cell? ⟨gb435, 2, none⟩ = some (.int .i64 a0_2) := (blk_cell BK435.out 2).trans rfl
                        have hcz47_3 : wc.cell? ⟨gb435, 3, none⟩ = some (.int .i64 a0_3) := (blk_cell BK435.out 3).trans rfl
                        have hcz47_4 : wc.cell? ⟨gb435, 4, none⟩ = some (.int .i64 a0_4) := (blk_cell BK435.out 4).trans rfl
                        have hcz47_5 : wc.cell? ⟨gb435, 5, none⟩ = some (.int .i64 a0_5) := (blk_cell BK435.out 5).trans rfl
                        have hfz47_0 := blk_frozen BK435.out 0
                        have hfz47_1 := blk_frozen BK435.out 1
                        have hfz47_2 := blk_frozen BK435.out 2
                        have hfz47_3 := blk_frozen BK435.out 3
                        have hfz47_4 := blk_frozen BK435.out 4
                        have hfz47_5 := blk_frozen BK435.out 5
                        have hcz48_0 : wc.cell? ⟨gb436, 0, none⟩ = some (.int .i64 0) := (blk_cell BK436.out 0).trans rfl
                        have hcz48_1 : wc.cell? ⟨gb436, 1, none⟩ = some (.int .i64 0) := (blk_cell BK436.out 1).trans rfl
                        have hcz48_2 : wc.cell? ⟨gb436, 2, none⟩ = some (.int .i64 0) := (blk_cell BK436.out 2).trans rfl
                        have hcz48_3 : wc.cell? ⟨gb436, 3, none⟩ = some (.int .i64 0) := (blk_cell BK436.out 3).trans rfl
                        have hcz48_4 : wc.cell? ⟨gb436, 4, none⟩ = some (.int .i64 0) := (blk_cell BK436.out 4).trans rfl
                        have hcz48_5 : wc.cell? ⟨gb436, 5, none⟩ = some (.int .i64 0) := (blk_cell BK436.out 5).trans rfl
                        have hfz48_0 := blk_frozen BK436.out 0
                        have hfz48_1 := blk_frozen BK436.out 1
                        have hfz48_2 := blk_frozen BK436.out 2
                        have hfz48_3 := blk_frozen BK436.out 3
                        have hfz48_4 := blk_frozen BK436.out 4
                        have hfz48_5 := blk_frozen BK436.out 5
                        go_wp2
                        refine bodyPost_ret (results_ct rfl _ _ gb436 53 #[.int .i64 a0_0, .int .i64 a0_1, .int .i64 7, .int .i64 a0_3, .int .i64 a0_4, .int .i64 a0_5] (0, 0) _ rfl (by (with_reducible repeat (first | refine blk_drewN ?_ _ | refine blk_drew ?_ | refine blk_alloc ?_ _)); refine blk_put (cs := #[.int .i64 a0_0, .int .i64 a0_1, .int .i64 7, .int .i64 a0_3, .int .i64 a0_4, .int .i64 0]) ?_ 5 _ rfl; (with_reducible repeat (first | refine blk_drewN ?_ _ | refine blk_drew ?_ | refine blk_alloc ?_ _)); refine blk_put (cs := #[.int .i64 a0_0, .int .i64 a0_1, .int .i64 7, .int .i64 a0_3, .int .i64 0, .int .i64 0]) ?_ 4 _ rfl; (with_reducible repeat (first | refine blk_drewN ?_ _ | refine blk_drew ?_ | refine blk_alloc ?_ _)); refine blk_put (cs := #[.int .i64 a0_0, .int .i64 a0_1, .int .i64 7, .int .i64 0, .int .i64 0, .int .i64 0]) ?_ 3 _ rfl; (with_reducible repeat (first | refine blk_drewN ?_ _ | refine blk_drew ?_ | refine blk_alloc ?_ _)); refine blk_put (cs := #[.int .i64 a0_0, .int .i64 a0_1, .int .i64 0, .int .i64 0, .int .i64 0, .int .i64 0]) ?_ 2 _ rfl; (with_reducible repeat (first | refine blk_drewN ?_ _ | refine blk_drew ?_ | refine blk_alloc ?_ _)); refine blk_put (cs := #[.int .i64 a0_0, .int .i64 0, .int .i64 0, .int .i64 0, .int .i64 0, .int .i64 0]) ?_ 1 _ rfl; (with_reducible repeat (first | refine blk_drewN ?_ _ | refine blk_drew ?_ | refine blk_alloc ?_ _)); refine blk_put (cs := #[.int .i64 0, .int .i64 0, .int .i64 0, .int .i64 0, .int .i64 0, .int .i64 0]) ?_ 0 _ rfl; (with_reducible repeat (first | refine blk_drewN ?_ _ | refine blk_drew ?_ | refine blk_alloc ?_ _)); refine blk_far ?_ NB436_435.out _; (with_reducible repeat (first | refine blk_drewN ?_ _ | refine blk_drew ?_ | refine blk_alloc ?_ _)); exact BK436.out) Try.underlying53 rfl (by kernel_rfl)) rfl ?_
                        exact ⟨by first | rfl | (simp [errW_none, errW_some] <;> rfl) | (simp [*, errW_none, errW_some] <;> rfl), by repeat (first | (with_reducible first | exact HB.out | apply below_alloc | apply pw_below_drewN | apply below_drew1 | refine below_set ?_ GE435.out | refine below_set ?_ GE436.out) | exact HB.out)⟩
                      · rw [if_neg c45] at H
                        have c45b0 : (a1 == 10) = false := beq_eq_false_iff_ne.mpr c45
                        have c45b1 : (a1 != 10) = true := bne_iff_ne.mpr c45
                        simp only [Option.some.injEq, Prod.mk.injEq] at H
                        obtain ⟨rfl, rfl, rfl, rfl, rfl, rfl, rfl⟩ := H
                        have hnb49 := NB435_436.out
                        have hnc49 := NB436_435.out
                        have hcz50_0 : wc.cell? ⟨gb435, 0, none⟩ = some (.int .i64 a0_0) := (blk_cell BK435.out 0).trans rfl
                        have hcz50_1 : wc.cell? ⟨gb435, 1, none⟩ = some (.int .i64 a0_1) := (blk_cell BK435.out 1).trans rfl
                        have hcz50_2 : wc.cell? ⟨gb435, 2, none⟩ = some (.int .i64 a0_2) := (blk_cell BK435.out 2).trans rfl
                        have hcz50_3 : wc.cell? ⟨gb435, 3, none⟩ = some (.int .i64 a0_3) := (blk_cell BK435.out 3).trans rfl
                        have hcz50_4 : wc.cell? ⟨gb435, 4, none⟩ = some (.int .i64 a0_4) := (blk_cell BK435.out 4).trans rfl
                        have hcz50_5 : wc.cell? ⟨gb435, 5, none⟩ = some (.int .i64 a0_5) := (blk_cell BK435.out 5).trans rfl
                        have hfz50_0 := blk_frozen BK435.out 0
                        have hfz50_1 := blk_frozen BK435.out 1
                        have hfz50_2 := blk_frozen BK435.out 2
                        have hfz50_3 := blk_frozen BK435.out 3
                        have hfz50_4 := blk_frozen BK435.out 4
                        have hfz50_5 := blk_frozen BK435.out 5
                        have hcz51_0 : wc.cell? ⟨gb436, 0, none⟩ = some (.int .i64 0) := (blk_cell BK436.out 0).trans rfl
                        have hcz51_1 : wc.cell? ⟨gb436, 1, none⟩ = some (.int .i64 0) := (blk_cell BK436.out 1).trans rfl
                        have hcz51_2 : wc.cell? ⟨gb436, 2, none⟩ = some (.int .i64 0) := (blk_cell BK436.out 2).trans rfl
                        have hcz51_3 : wc.cell? ⟨gb436, 3, none⟩ = some (.int .i64 0) := (blk_cell BK436.out 3).trans rfl
                        have hcz51_4 : wc.cell? ⟨gb436, 4, none⟩ = some (.int .i64 0) := (blk_cell BK436.out 4).trans rfl
                        have hcz51_5 : wc.cell? ⟨gb436, 5, none⟩ = some (.int .i64 0) := (blk_cell BK436.out 5).trans rfl
                        have hfz51_0 := blk_frozen BK436.out 0
                        have hfz51_1 := blk_frozen BK436.out 1
                        have hfz51_2 := blk_frozen BK436.out 2
                        have hfz51_3 := blk_frozen BK436.out 3
                        have hfz51_4 := blk_frozen BK436.out 4
                        have hfz51_5 := blk_frozen BK436.out 5
                        go_wp2
                        refine bodyPost_ret (results_ct rfl _ _ gb436 53 #[.int .i64 a0_0, .int .i64 a0_1, .int .i64 1, .int .i64 a0_3, .int .i64 a0_4, .int .i64 a0_5] (0, 0) _ rfl (by (with_reducible repeat (first | refine blk_drewN ?_ _ | refine blk_drew ?_ | refine blk_alloc ?_ _)); refine blk_put (cs := #[.int .i64 a0_0, .int .i64 a0_1, .int .i64 1, .int .i64 a0_3, .int .i64 a0_4, .int .i64 0]) ?_ 5 _ rfl; (with_reducible repeat (first | refine blk_drewN ?_ _ | refine blk_drew ?_ | refine blk_alloc ?_ _)); refine blk_put (cs := #[.int .i64 a0_0, .int .i64 a0_1, .int .i64 1, .int .i64 a0_3, .int .i64 0, .int .i64 0]) ?_ 4 _ rfl; (with_reducible repeat (first | refine blk_drewN ?_ _ | refine blk_drew ?_ | refine blk_alloc ?_ _)); refine blk_put (cs := #[.int .i64 a0_0, .int .i64 a0_1, .int .i64 1, .int .i64 0, .int .i64 0, .int .i64 0]) ?_ 3 _ rfl; (with_reducible repeat (first | refine blk_drewN ?_ _ | refine blk_drew ?_ | refine blk_alloc ?_ _)); refine blk_put (cs := #[.int .i64 a0_0, .int .i64 a0_1, .int .i64 0, .int .i64 0, .int .i64 0, .int .i64 0]) ?_ 2 _ rfl; (with_reducible repeat (first | refine blk_drewN ?_ _ | refine blk_drew ?_ | refine blk_alloc ?_ _)); refine blk_put (cs := #[.int .i64 a0_0, .int .i64 0, .int .i64 0, .int .i64 0, .int .i64 0, .int .i64 0]) ?_ 1 _ rfl; (with_reducible repeat (first | refine blk_drewN ?_ _ | refine blk_drew ?_ | refine blk_alloc ?_ _)); refine blk_put (cs := #[.int .i64 0, .int .i64 0, .int .i64 0, .int .i64 0, .int .i64 0, .int .i64 0]) ?_ 0 _ rfl; (with_reducible repeat (first | refine blk_drewN ?_ _ | refine blk_drew ?_ | refine blk_alloc ?_ _)); refine blk_far ?_ NB436_435.out _; (with_reducible repeat (first | refine blk_drewN ?_ _ | refine blk_drew ?_ | refine blk_alloc ?_ _)); exact BK436.out) Try.underlying53 rfl (by kernel_rfl)) rfl ?_
                        exact ⟨by first | rfl | (simp [errW_none, errW_some] <;> rfl) | (simp [*, errW_none, errW_some] <;> rfl), by repeat (first | (with_reducible first | exact HB.out | apply below_alloc | apply pw_below_drewN | apply below_drew1 | refine below_set ?_ GE435.out | refine below_set ?_ GE436.out) | exact HB.out)⟩
  · replace c4 := Bool.eq_false_iff.mpr c4
    subst c4
    have H1 : (some (a0_0, a0_1, a0_2, a0_3, a0_4, a0_5, 8)) = some (r1, r2, r3, r4, r5, r6, r7) := by rw [if_neg (show ¬ (false = true) by decide)] at H; exact H
    clear H
    have H := H1
    clear H1
    simp only [Option.some.injEq, Prod.mk.injEq] at H
    obtain ⟨rfl, rfl, rfl, rfl, rfl, rfl, rfl⟩ := H
    go_enter Try.func41, Try.ntmps41
    go_wp2_with (first | ((with_reducible refine gate_dst (N := 2) rfl ?_); refine box_event ?hg (N := 2) ?hd (cs := #[.int .i64 a0_0, .int .i64 a0_1, .int .i64 a0_2, .int .i64 a0_3, .int .i64 a0_4, .int .i64 a0_5]) (t := 53) ?hr ?_; (case hd => rfl); (case hg => rfl); (case hr => first | (go_simp; done) | (go_simp; rfl)); intro gb435 hg w52 hbox hb; have n0_ := Aside0.mk (below_step (by repeat (first | (with_reducible first | exact HB.out | apply below_alloc | apply pw_below_drewN | apply below_drew1) | exact HB.out)) hb); have n1_ := Aside0.mk (hbox); have n2_ := Aside0.mk ((by rw [hg]; exact (below_size (by repeat (first | (with_reducible first | exact HB.out | apply below_alloc | apply pw_below_drewN | apply below_drew1) | exact HB.out))) : w.heap.size ≤ gb435)); have n3_ := Aside0.mk ((by rw [hg]; exact (below_size (by repeat (first | (with_reducible first | exact HB.out | apply below_alloc | apply pw_below_drewN | apply below_drew1) | exact HB.out))) : w.heap.size ≤ gb435)); clear HB; have HB := n0_; have BK435 := n1_; have GW435 := n2_; have GE435 := n3_; clear n0_ n1_ n2_ n3_; clear hb hbox hg) | ((with_reducible refine gate_dst (N := 4) rfl ?_); refine box_event ?hg (N := 4) ?hd (cs := #[.int .i64 0, .int .i64 0, .int .i64 0, .int .i64 0, .int .i64 0, .int .i64 0]) (t := 53) ?hr ?_; (case hd => rfl); (case hg => rfl); (case hr => first | (go_simp; done) | (go_simp; rfl)); intro gb436 hg w53 hbox hb; have n0_ := Aside0.mk (blk_below (g := gb435) (o := .cells #[.int .i64 a0_0, .int .i64 a0_1, .int .i64 a0_2, .int .i64 a0_3, .int .i64 a0_4, .int .i64 a0_5] 53 (0, 0)) (by (with_reducible repeat (first | refine blk_drewN ?_ _ | refine blk_drew ?_ | refine blk_alloc ?_ _)); exact BK435.out) hb); have n1_ := Aside0.mk (below_step (by repeat (first | (with_reducible first | exact HB.out | apply below_alloc | apply pw_below_drewN | apply below_drew1 | refine below_set ?_ GE435.out) | exact HB.out)) hb); have n2_ := Aside0.mk (hbox); have n3_ := Aside0.mk ((by rw [hg]; exact (below_size (by repeat (first | (with_reducible first | exact HB.out | apply below_alloc | apply pw_below_drewN | apply below_drew1 | refine below_set ?_ GE435.out) | exact HB.out))) : w.heap.size ≤ gb436)); have n4_ := Aside0.mk ((by rw [hg]; exact (below_size (by repeat (first | (with_reducible first | exact HB.out | apply below_alloc | apply pw_below_drewN | apply below_drew1 | refine below_set ?_ GE435.out) | exact HB.out))) : w.heap.size ≤ gb436)); have n5_ := Aside0.mk ((by rw [hg]; exact Nat.ne_of_lt (blk_lt (g := gb435) (o := .cells #[.int .i64 a0_0, .int .i64 a0_1, .int .i64 a0_2, .int .i64 a0_3, .int .i64 a0_4, .int .i64 a0_5] 53 (0, 0)) (by (with_reducible repeat (first | refine blk_drewN ?_ _ | refine blk_drew ?_ | refine blk_alloc ?_ _)); exact BK435.out)) : gb435 ≠ gb436)); have n6_ := Aside0.mk ((by rw [hg]; exact Nat.ne_of_gt (blk_lt (g := gb435) (o := .cells #[.int .i64 a0_0, .int .i64 a0_1, .int .i64 a0_2, .int .i64 a0_3, .int .i64 a0_4, .int .i64 a0_5] 53 (0, 0)) (by (with_reducible repeat (first | refine blk_drewN ?_ _ | refine blk_drew ?_ | refine blk_alloc ?_ _)); exact BK435.out)) : gb436 ≠ gb435)); clear BK435; clear HB; have BK435 := n0_; have HB := n1_; have BK436 := n2_; have GW436 := n3_; have GE436 := n4_; have NB435_436 := n5_; have NB436_435 := n6_; clear n0_ n1_ n2_ n3_ n4_ n5_ n6_; clear hb hbox hg; have hnb54 := NB435_436.out; have hnc54 := NB436_435.out; have hcz55_0 : w53.cell? ⟨gb435, 0, none⟩ = some (.int .i64 a0_0) := (blk_cell BK435.out 0).trans rfl; have hcz55_1 : w53.cell? ⟨gb435, 1, none⟩ = some (.int .i64 a0_1) := (blk_cell BK435.out 1).trans rfl; have hcz55_2 : w53.cell? ⟨gb435, 2, none⟩ = some (.int .i64 a0_2) := (blk_cell BK435.out 2).trans rfl; have hcz55_3 : w53.cell? ⟨gb435, 3, none⟩ = some (.int .i64 a0_3) := (blk_cell BK435.out 3).trans rfl; have hcz55_4 : w53.cell? ⟨gb435, 4, none⟩ = some (.int .i64 a0_4) := (blk_cell BK435.out 4).trans rfl; have hcz55_5 : w53.cell? ⟨gb435, 5, none⟩ = some (.int .i64 a0_5) := (blk_cell BK435.out 5).trans rfl; have hfz55_0 := blk_frozen BK435.out 0; have hfz55_1 := blk_frozen BK435.out 1; have hfz55_2 := blk_frozen BK435.out 2; have hfz55_3 := blk_frozen BK435.out 3; have hfz55_4 := blk_frozen BK435.out 4; have hfz55_5 := blk_frozen BK435.out 5) | ((with_reducible refine gate_callee (f := 57) rfl ?_); refine goesL_ (some 10) rfl rfl Try.func57 (by kernel_rfl) rfl #[.int .i64 a1, .int .i64 a0_2] rfl (by (try simp only [List.map_toArray, List.map_cons, List.map_nil]); first | done | rfl | (simp only [List.length_drop, List.length_take]; rfl)) ?_; (with_reducible refine (millwrightref09_from.calls k a1 a0_2 false _ A3.out).mono ?_); rintro e w' ⟨rfl, ⟨nd, rfl⟩⟩; refine ⟨_, rfl, ?_⟩; (try (rw [drewN_self w53]; generalize hq_ : World.drewN w53 _ = w53; have n0_ : Aside0 (w53.heap[gb435]? = some (.cells #[.int .i64 a0_0, .int .i64 a0_1, .int .i64 a0_2, .int .i64 a0_3, .int .i64 a0_4, .int .i64 a0_5] 53 (0, 0))) := ⟨by rw [← hq_]; exact (by (with_reducible repeat (first | refine blk_drewN ?_ _ | refine blk_drew ?_ | refine blk_alloc ?_ _)); exact BK435.out)⟩; have n1_ : Aside0 (w53.heap[gb436]? = some (.cells #[.int .i64 0, .int .i64 0, .int .i64 0, .int .i64 0, .int .i64 0, .int .i64 0] 53 (0, 0))) := ⟨by rw [← hq_]; exact (by (with_reducible repeat (first | refine blk_drewN ?_ _ | refine blk_drew ?_ | refine blk_alloc ?_ _)); exact BK436.out)⟩; have n2_ : Aside0 (Below w.heap.size w w53) := ⟨by rw [← hq_]; exact (by repeat (first | (with_reducible first | exact HB.out | apply below_alloc | apply pw_below_drewN | apply below_drew1 | refine below_set ?_ GE435.out | refine below_set ?_ GE436.out) | exact HB.out))⟩; clear BK435 BK436 HB hq_; have BK435 := n0_; have BK436 := n1_; have HB := n2_; clear n0_ n1_ n2_)); have hcz56_0 : w53.cell? ⟨gb435, 0, none⟩ = some (.int .i64 a0_0) := (blk_cell BK435.out 0).trans rfl; have hcz56_1 : w53.cell? ⟨gb435, 1, none⟩ = some (.int .i64 a0_1) := (blk_cell BK435.out 1).trans rfl; have hcz56_2 : w53.cell? ⟨gb435, 2, none⟩ = some (.int .i64 a0_2) := (blk_cell BK435.out 2).trans rfl; have hcz56_3 : w53.cell? ⟨gb435, 3, none⟩ = some (.int .i64 a0_3) := (blk_cell BK435.out 3).trans rfl; have hcz56_4 : w53.cell? ⟨gb435, 4, none⟩ = some (.int .i64 a0_4) := (blk_cell BK435.out 4).trans rfl; have hcz56_5 : w53.cell? ⟨gb435, 5, none⟩ = some (.int .i64 a0_5) := (blk_cell BK435.out 5).trans rfl; have hfz56_0 := blk_frozen BK435.out 0; have hfz56_1 := blk_frozen BK435.out 1; have hfz56_2 := blk_frozen BK435.out 2; have hfz56_3 := blk_frozen BK435.out 3; have hfz56_4 := blk_frozen BK435.out 4; have hfz56_5 := blk_frozen BK435.out 5; have hcz57_0 : w53.cell? ⟨gb436, 0, none⟩ = some (.int .i64 0) := (blk_cell BK436.out 0).trans rfl; have hcz57_1 : w53.cell? ⟨gb436, 1, none⟩ = some (.int .i64 0) := (blk_cell BK436.out 1).trans rfl; have hcz57_2 : w53.cell? ⟨gb436, 2, none⟩ = some (.int .i64 0) := (blk_cell BK436.out 2).trans rfl; have hcz57_3 : w53.cell? ⟨gb436, 3, none⟩ = some (.int .i64 0) := (blk_cell BK436.out 3).trans rfl; have hcz57_4 : w53.cell? ⟨gb436, 4, none⟩ = some (.int .i64 0) := (blk_cell BK436.out 4).trans rfl; have hcz57_5 : w53.cell? ⟨gb436, 5, none⟩ = some (.int .i64 0) := (blk_cell BK436.out 5).trans rfl; have hfz57_0 := blk_frozen BK436.out 0; have hfz57_1 := blk_frozen BK436.out 1; have hfz57_2 := blk_frozen BK436.out 2; have hfz57_3 := blk_frozen BK436.out 3; have hfz57_4 := blk_frozen BK436.out 4; have hfz57_5 := blk_frozen BK436.out 5))
    refine bodyPost_ret (results_ct rfl _ _ gb436 53 #[.int .i64 a0_0, .int .i64 a0_1, .int .i64 a0_2, .int .i64 a0_3, .int .i64 a0_4, .int .i64 a0_5] (0, 0) _ rfl (by (with_reducible repeat (first | refine blk_drewN ?_ _ | refine blk_drew ?_ | refine blk_alloc ?_ _)); refine blk_put (cs := #[.int .i64 a0_0, .int .i64 a0_1, .int .i64 a0_2, .int .i64 a0_3, .int .i64 a0_4, .int .i64 0]) ?_ 5 _ rfl; (with_reducible repeat (first | refine blk_drewN ?_ _ | refine blk_drew ?_ | refine blk_alloc ?_ _)); refine blk_put (cs := #[.int .i64 a0_0, .int .i64 a0_1, .int .i64 a0_2, .int .i64 a0_3, .int .i64 0, .int .i64 0]) ?_ 4 _ rfl; (with_reducible repeat (first | refine blk_drewN ?_ _ | refine blk_drew ?_ | refine blk_alloc ?_ _)); refine blk_put (cs := #[.int .i64 a0_0, .int .i64 a0_1, .int .i64 a0_2, .int .i64 0, .int .i64 0, .int .i64 0]) ?_ 3 _ rfl; (with_reducible repeat (first | refine blk_drewN ?_ _ | refine blk_drew ?_ | refine blk_alloc ?_ _)); refine blk_put (cs := #[.int .i64 a0_0, .int .i64 a0_1, .int .i64 0, .int .i64 0, .int .i64 0, .int .i64 0]) ?_ 2 _ rfl; (with_reducible repeat (first | refine blk_drewN ?_ _ | refine blk_drew ?_ | refine blk_alloc ?_ _)); refine blk_put (cs := #[.int .i64 a0_0, .int .i64 0, .int .i64 0, .int .i64 0, .int .i64 0, .int .i64 0]) ?_ 1 _ rfl; (with_reducible repeat (first | refine blk_drewN ?_ _ | refine blk_drew ?_ | refine blk_alloc ?_ _)); refine blk_put (cs := #[.int .i64 0, .int .i64 0, .int .i64 0, .int .i64 0, .int .i64 0, .int .i64 0]) ?_ 0 _ rfl; (with_reducible repeat (first | refine blk_drewN ?_ _ | refine blk_drew ?_ | refine blk_alloc ?_ _)); exact BK436.out) Try.underlying53 rfl (by kernel_rfl)) rfl ?_
    exact ⟨by first | rfl | (simp [errW_none, errW_some] <;> rfl) | (simp [*, errW_none, errW_some] <;> rfl), by repeat (first | (with_reducible first | exact HB.out | apply below_alloc | apply pw_below_drewN | apply below_drew1 | refine below_set ?_ GE435.out | refine below_set ?_ GE436.out) | exact HB.out)⟩

end Go.Proofs.Ytkldfjlbgmppfab.MLifeTells
