/- The engine of the yard and what it leans on, part 29. -/
import Derived.Test.YtbpoapfkeinjnaaGreatDoorJ28
import Derived.Laws.ComplexArith
namespace Go.Proofs.YtbpoapfkeinjnaaGreatDoor.Ld
open Go.RowKit Go.Proofs.YtbpoapfkeinjnaaGreatDoorW.PrintWords Go.Proofs.YtbpoapfkeinjnaaGreatDoorW.PrintLast Go.Proofs.YtbpoapfkeinjnaaGreatDoorW.PrintMore
set_option linter.unusedVariables false
set_option linter.unusedSimpArgs false
set_option linter.unnecessarySimpa false
def cfgWide (c : Cf) : Cf := ⟨1000, cutF c.slots 1 4, 16, cutF c.queue 0 4, cutF c.tries 1 3, cutF c.preempts 0 2, cutF c.timeout 1 4, cutF c.backoff 1 3, cutF c.most 1 6, cutF c.quantum 1 30⟩
theorem cfgWide_zero : cfgWide ⟨0, 0, 0, 0, 0, 0, 0, 0, 0, 0⟩ = cfgW := by
  unfold cfgWide cfgW
  simp only [cutF_zero _ _ (show (1 : Int) ≤ 4 by decide), cutF_zero _ _ (show (0 : Int) ≤ 4 by decide), cutF_zero _ _ (show (1 : Int) ≤ 3 by decide), cutF_zero _ _ (show (0 : Int) ≤ 2 by decide), cutF_zero _ _ (show (1 : Int) ≤ 6 by decide), cutF_zero _ _ (show (1 : Int) ≤ 30 by decide)]
set_option maxHeartbeats 8000000 in
set_option maxRecDepth 100000 in
theorem config_calls (c : Cf) (w : World) : Calls Tryz.prog 12 #[.agg (encCf c), .bool true] w fun e w' => e = .returned (.agg (encCf (cfgWide c))) ∧ Below w.heap.size w w' := by
  obtain ⟨w0, hw0⟩ : ∃ w0, w0 = (w.alloc (.cells (encCf c) 26)).alloc (.cells (encCf ⟨0, 0, 0, 0, 0, 0, 0, 0, 0, 0⟩) 26) := ⟨_, rfl⟩
  have HB0 := Aside0.mk (show Below w.heap.size w w0 from hw0 ▸ below_alloc (below_alloc (Below.refl _ w) _) _)
  have HX0 := Aside0.mk (show w0.heap[w.heap.size]? = some (.cells (encCf c) 26 (0, 0)) from hw0 ▸ blk_below (heap_alloc_new w (.cells (encCf c) 26)) (below_alloc (Below.refl _ _) _))
  have HZ0 := Aside0.mk (show w0.heap[(w.alloc (.cells (encCf c) 26)).heap.size]? = some (.cells (encCf ⟨0, 0, 0, 0, 0, 0, 0, 0, 0, 0⟩) 26 (0, 0)) from hw0 ▸ heap_alloc_new _ _)
  have HW0 := Aside0.mk (show w0 = (w.alloc (.cells #[.int .i64 c.budget, .int .i64 c.slots, .int .i64 c.active, .int .i64 c.queue, .int .i64 c.tries, .int .i64 c.preempts, .int .i64 c.timeout, .int .i64 c.backoff, .int .i64 c.most, .int .i64 c.quantum] 26)).alloc (.cells #[.int .i64 0, .int .i64 0, .int .i64 0, .int .i64 0, .int .i64 0, .int .i64 0, .int .i64 0, .int .i64 0, .int .i64 0, .int .i64 0] 26) from hw0)
  clear hw0
  unfold encCf
  go_enter Tryz.func12, Tryz.ntmps12
  go_upto_region 1 with (fail)
  rw [← HW0.out]
  obtain ⟨B, hB⟩ : ∃ B, w.heap.size = B := ⟨_, rfl⟩
  obtain ⟨B4, hB4⟩ : ∃ B4, (w.alloc (.cells (encCf c) 26)).heap.size = B4 := ⟨_, rfl⟩
  have hs : B4 = B + 1 := by rw [← hB4, ← hB]; exact size_alloc _ _
  rw [hB4] at HZ0
  rw [hB] at HX0 ⊢
  have HBB := Aside0.mk hB
  clear hB hB4
  subst hs
  have g0 := (blk_cell HX0.out 0).trans (show _ = some (Value.int .i64 c.budget) from rfl)
  have g1 := (blk_cell HX0.out 1).trans (show _ = some (Value.int .i64 c.slots) from rfl)
  have g2 := (blk_cell HX0.out 2).trans (show _ = some (Value.int .i64 c.active) from rfl)
  have g3 := (blk_cell HX0.out 3).trans (show _ = some (Value.int .i64 c.queue) from rfl)
  have g4 := (blk_cell HX0.out 4).trans (show _ = some (Value.int .i64 c.tries) from rfl)
  have g5 := (blk_cell HX0.out 5).trans (show _ = some (Value.int .i64 c.preempts) from rfl)
  have g6 := (blk_cell HX0.out 6).trans (show _ = some (Value.int .i64 c.timeout) from rfl)
  have g7 := (blk_cell HX0.out 7).trans (show _ = some (Value.int .i64 c.backoff) from rfl)
  have g8 := (blk_cell HX0.out 8).trans (show _ = some (Value.int .i64 c.most) from rfl)
  have g9 := (blk_cell HX0.out 9).trans (show _ = some (Value.int .i64 c.quantum) from rfl)
  obtain ⟨b5, hb5⟩ : ∃ b5, w0.heap.size = b5 := ⟨_, rfl⟩
  go_cut [5] (fun v5 wc => v5 = .pointer (some ⟨b5, 0, none⟩) ∧ Aside0 (Below w0.heap.size w0 wc ∧ wc.heap[b5]? = some (.cells #[.int .i64 (cutF c.budget 12 40), .int .i64 (cutF c.slots 1 4), .int .i64 (cutF c.active 1 5), .int .i64 (cutF c.queue 0 4), .int .i64 (cutF c.tries 1 3), .int .i64 (cutF c.preempts 0 2), .int .i64 (cutF c.timeout 1 4), .int .i64 (cutF c.backoff 1 3), .int .i64 (cutF c.most 1 6), .int .i64 (cutF c.quantum 1 30)] 26 (0, 0))))
  case first =>
    go_region_held3 (fun w' => w'.cell? ⟨B, 0, none⟩ = some (.int .i64 c.budget) ∧ w'.cell? ⟨B, 1, none⟩ = some (.int .i64 c.slots) ∧ w'.cell? ⟨B, 2, none⟩ = some (.int .i64 c.active) ∧ w'.cell? ⟨B, 3, none⟩ = some (.int .i64 c.queue) ∧ w'.cell? ⟨B, 4, none⟩ = some (.int .i64 c.tries) ∧ w'.cell? ⟨B, 5, none⟩ = some (.int .i64 c.preempts) ∧ w'.cell? ⟨B, 6, none⟩ = some (.int .i64 c.timeout) ∧ w'.cell? ⟨B, 7, none⟩ = some (.int .i64 c.backoff) ∧ w'.cell? ⟨B, 8, none⟩ = some (.int .i64 c.most) ∧ w'.cell? ⟨B, 9, none⟩ = some (.int .i64 c.quantum)) (go_keep) (first | (go_at_call 6; (with_reducible refine (lcut_calls _ _ _ ?c1 ?c2 ?c3 _).mono ?_); (case c1 => decide); (case c2 => decide); (case c3 => decide); rintro e w1 ⟨rfl, rfl⟩))
    all_goals
      go_wp2
      go_meet
      exact ⟨by first | rfl | rw [hb5], ⟨Below.drew (below_alloc (Below.refl _ w0) _), by rw [← hb5]; exact heap_alloc_new w0 _⟩⟩
  case rest =>
    clear g0 g1 g2 g3 g4 g5 g6 g7 g8 g9
    obtain ⟨rfl, hA⟩ := hcut
    obtain ⟨hb3, hx3⟩ := hA.out
    have HB3 := Aside0.mk hb3
    have HX3 := Aside0.mk hx3
    have HZ3 := Aside0.mk (blk_below HZ0.out HB3.out)
    have hlt : B + 1 < b5 := by rw [← hb5]; exact blk_lt HZ0.out
    have r1 : (b5 = B + 1) = False := eq_false (by omega)
    have r2 : (B + 1 = b5) = False := eq_false (by omega)
    clear hA hb3 hx3
    have q0 := (blk_cell HX3.out 0).trans (show _ = some (Value.int .i64 (cutF c.budget 12 40)) from rfl)
    have z0 := (blk_cell HZ3.out 0).trans (show _ = some (Value.int .i64 0) from rfl)
    have q1 := (blk_cell HX3.out 1).trans (show _ = some (Value.int .i64 (cutF c.slots 1 4)) from rfl)
    have z1 := (blk_cell HZ3.out 1).trans (show _ = some (Value.int .i64 0) from rfl)
    have q2 := (blk_cell HX3.out 2).trans (show _ = some (Value.int .i64 (cutF c.active 1 5)) from rfl)
    have z2 := (blk_cell HZ3.out 2).trans (show _ = some (Value.int .i64 0) from rfl)
    have q3 := (blk_cell HX3.out 3).trans (show _ = some (Value.int .i64 (cutF c.queue 0 4)) from rfl)
    have z3 := (blk_cell HZ3.out 3).trans (show _ = some (Value.int .i64 0) from rfl)
    have q4 := (blk_cell HX3.out 4).trans (show _ = some (Value.int .i64 (cutF c.tries 1 3)) from rfl)
    have z4 := (blk_cell HZ3.out 4).trans (show _ = some (Value.int .i64 0) from rfl)
    have q5 := (blk_cell HX3.out 5).trans (show _ = some (Value.int .i64 (cutF c.preempts 0 2)) from rfl)
    have z5 := (blk_cell HZ3.out 5).trans (show _ = some (Value.int .i64 0) from rfl)
    have q6 := (blk_cell HX3.out 6).trans (show _ = some (Value.int .i64 (cutF c.timeout 1 4)) from rfl)
    have z6 := (blk_cell HZ3.out 6).trans (show _ = some (Value.int .i64 0) from rfl)
    have q7 := (blk_cell HX3.out 7).trans (show _ = some (Value.int .i64 (cutF c.backoff 1 3)) from rfl)
    have z7 := (blk_cell HZ3.out 7).trans (show _ = some (Value.int .i64 0) from rfl)
    have q8 := (blk_cell HX3.out 8).trans (show _ = some (Value.int .i64 (cutF c.most 1 6)) from rfl)
    have z8 := (blk_cell HZ3.out 8).trans (show _ = some (Value.int .i64 0) from rfl)
    have q9 := (blk_cell HX3.out 9).trans (show _ = some (Value.int .i64 (cutF c.quantum 1 30)) from rfl)
    have z9 := (blk_cell HZ3.out 9).trans (show _ = some (Value.int .i64 0) from rfl)
    have fq := fun k => blk_frozen HX3.out k
    have fz := fun k => blk_frozen HZ3.out k
    have hB3 := Aside0.mk (below_step HB0.out HB3.out)
    have HL := Aside0.mk (And.intro HBB.out hlt)
    clear hb5 hlt
    go_wp2
    obtain ⟨wd, hwd⟩ : ∃ wd, wd = (wc.setCell ⟨b5, 0, none⟩ (.int .i64 1000)).setCell ⟨b5, 2, none⟩ (.int .i64 16) := ⟨_, rfl⟩
    have hcd : Chg (fun k => k = b5) wc wd := hwd ▸ (((Chg.refl (fun k => k = b5) wc).set rfl _ _).set rfl _ _)
    have p0 : wd.heap[B + 1]? = some (.cells #[(.int .i64 0), (.int .i64 0), (.int .i64 0), (.int .i64 0), (.int .i64 0), (.int .i64 0), (.int .i64 0), (.int .i64 0), (.int .i64 0), (.int .i64 0)] 26 (0, 0)) := (hcd.block (B + 1) (blk_lt HZ3.out) (fun e => by have := HL.out.2; omega)).trans HZ3.out
    have k0 : Chg (fun k => k = B + 1) wd wd := Chg.refl _ _
    rw [← hwd]
    clear hwd q0 q1 q2 q3 q4 q5 q6 q7 q8 q9 z0 z1 z2 z3 z4 z5 z6 z7 z8 z9 fq fz
    obtain ⟨x0, hx0⟩ : ∃ x0, x0 = wd.setCell ⟨B + 1, 0, none⟩ (.int .i64 1000) := ⟨_, rfl⟩
    have p1 : x0.heap[B + 1]? = some (.cells #[(.int .i64 1000), (.int .i64 0), (.int .i64 0), (.int .i64 0), (.int .i64 0), (.int .i64 0), (.int .i64 0), (.int .i64 0), (.int .i64 0), (.int .i64 0)] 26 (0, 0)) := hx0 ▸ blk_put p0 0 (.int .i64 1000) rfl
    have k1 : Chg (fun k => k = B + 1) wd x0 := hx0 ▸ (k0.set rfl _ _)
    rw [← hx0]
    clear p0 k0 hx0
    obtain ⟨x1, hx1⟩ : ∃ x1, x1 = x0.setCell ⟨B + 1, 1, none⟩ (.int .i64 (cutF c.slots 1 4)) := ⟨_, rfl⟩
    have p2 : x1.heap[B + 1]? = some (.cells #[(.int .i64 1000), (.int .i64 (cutF c.slots 1 4)), (.int .i64 0), (.int .i64 0), (.int .i64 0), (.int .i64 0), (.int .i64 0), (.int .i64 0), (.int .i64 0), (.int .i64 0)] 26 (0, 0)) := hx1 ▸ blk_put p1 1 (.int .i64 (cutF c.slots 1 4)) rfl
    have k2 : Chg (fun k => k = B + 1) wd x1 := hx1 ▸ (k1.set rfl _ _)
    rw [← hx1]
    clear p1 k1 hx1
    obtain ⟨x2, hx2⟩ : ∃ x2, x2 = x1.setCell ⟨B + 1, 2, none⟩ (.int .i64 16) := ⟨_, rfl⟩
    have p3 : x2.heap[B + 1]? = some (.cells #[(.int .i64 1000), (.int .i64 (cutF c.slots 1 4)), (.int .i64 16), (.int .i64 0), (.int .i64 0), (.int .i64 0), (.int .i64 0), (.int .i64 0), (.int .i64 0), (.int .i64 0)] 26 (0, 0)) := hx2 ▸ blk_put p2 2 (.int .i64 16) rfl
    have k3 : Chg (fun k => k = B + 1) wd x2 := hx2 ▸ (k2.set rfl _ _)
    rw [← hx2]
    clear p2 k2 hx2
    obtain ⟨x3, hx3⟩ : ∃ x3, x3 = x2.setCell ⟨B + 1, 3, none⟩ (.int .i64 (cutF c.queue 0 4)) := ⟨_, rfl⟩
    have p4 : x3.heap[B + 1]? = some (.cells #[(.int .i64 1000), (.int .i64 (cutF c.slots 1 4)), (.int .i64 16), (.int .i64 (cutF c.queue 0 4)), (.int .i64 0), (.int .i64 0), (.int .i64 0), (.int .i64 0), (.int .i64 0), (.int .i64 0)] 26 (0, 0)) := hx3 ▸ blk_put p3 3 (.int .i64 (cutF c.queue 0 4)) rfl
    have k4 : Chg (fun k => k = B + 1) wd x3 := hx3 ▸ (k3.set rfl _ _)
    rw [← hx3]
    clear p3 k3 hx3
    obtain ⟨x4, hx4⟩ : ∃ x4, x4 = x3.setCell ⟨B + 1, 4, none⟩ (.int .i64 (cutF c.tries 1 3)) := ⟨_, rfl⟩
    have p5 : x4.heap[B + 1]? = some (.cells #[(.int .i64 1000), (.int .i64 (cutF c.slots 1 4)), (.int .i64 16), (.int .i64 (cutF c.queue 0 4)), (.int .i64 (cutF c.tries 1 3)), (.int .i64 0), (.int .i64 0), (.int .i64 0), (.int .i64 0), (.int .i64 0)] 26 (0, 0)) := hx4 ▸ blk_put p4 4 (.int .i64 (cutF c.tries 1 3)) rfl
    have k5 : Chg (fun k => k = B + 1) wd x4 := hx4 ▸ (k4.set rfl _ _)
    rw [← hx4]
    clear p4 k4 hx4
    obtain ⟨x5, hx5⟩ : ∃ x5, x5 = x4.setCell ⟨B + 1, 5, none⟩ (.int .i64 (cutF c.preempts 0 2)) := ⟨_, rfl⟩
    have p6 : x5.heap[B + 1]? = some (.cells #[(.int .i64 1000), (.int .i64 (cutF c.slots 1 4)), (.int .i64 16), (.int .i64 (cutF c.queue 0 4)), (.int .i64 (cutF c.tries 1 3)), (.int .i64 (cutF c.preempts 0 2)), (.int .i64 0), (.int .i64 0), (.int .i64 0), (.int .i64 0)] 26 (0, 0)) := hx5 ▸ blk_put p5 5 (.int .i64 (cutF c.preempts 0 2)) rfl
    have k6 : Chg (fun k => k = B + 1) wd x5 := hx5 ▸ (k5.set rfl _ _)
    rw [← hx5]
    clear p5 k5 hx5
    obtain ⟨x6, hx6⟩ : ∃ x6, x6 = x5.setCell ⟨B + 1, 6, none⟩ (.int .i64 (cutF c.timeout 1 4)) := ⟨_, rfl⟩
    have p7 : x6.heap[B + 1]? = some (.cells #[(.int .i64 1000), (.int .i64 (cutF c.slots 1 4)), (.int .i64 16), (.int .i64 (cutF c.queue 0 4)), (.int .i64 (cutF c.tries 1 3)), (.int .i64 (cutF c.preempts 0 2)), (.int .i64 (cutF c.timeout 1 4)), (.int .i64 0), (.int .i64 0), (.int .i64 0)] 26 (0, 0)) := hx6 ▸ blk_put p6 6 (.int .i64 (cutF c.timeout 1 4)) rfl
    have k7 : Chg (fun k => k = B + 1) wd x6 := hx6 ▸ (k6.set rfl _ _)
    rw [← hx6]
    clear p6 k6 hx6
    obtain ⟨x7, hx7⟩ : ∃ x7, x7 = x6.setCell ⟨B + 1, 7, none⟩ (.int .i64 (cutF c.backoff 1 3)) := ⟨_, rfl⟩
    have p8 : x7.heap[B + 1]? = some (.cells #[(.int .i64 1000), (.int .i64 (cutF c.slots 1 4)), (.int .i64 16), (.int .i64 (cutF c.queue 0 4)), (.int .i64 (cutF c.tries 1 3)), (.int .i64 (cutF c.preempts 0 2)), (.int .i64 (cutF c.timeout 1 4)), (.int .i64 (cutF c.backoff 1 3)), (.int .i64 0), (.int .i64 0)] 26 (0, 0)) := hx7 ▸ blk_put p7 7 (.int .i64 (cutF c.backoff 1 3)) rfl
    have k8 : Chg (fun k => k = B + 1) wd x7 := hx7 ▸ (k7.set rfl _ _)
    rw [← hx7]
    clear p7 k7 hx7
    obtain ⟨x8, hx8⟩ : ∃ x8, x8 = x7.setCell ⟨B + 1, 8, none⟩ (.int .i64 (cutF c.most 1 6)) := ⟨_, rfl⟩
    have p9 : x8.heap[B + 1]? = some (.cells #[(.int .i64 1000), (.int .i64 (cutF c.slots 1 4)), (.int .i64 16), (.int .i64 (cutF c.queue 0 4)), (.int .i64 (cutF c.tries 1 3)), (.int .i64 (cutF c.preempts 0 2)), (.int .i64 (cutF c.timeout 1 4)), (.int .i64 (cutF c.backoff 1 3)), (.int .i64 (cutF c.most 1 6)), (.int .i64 0)] 26 (0, 0)) := hx8 ▸ blk_put p8 8 (.int .i64 (cutF c.most 1 6)) rfl
    have k9 : Chg (fun k => k = B + 1) wd x8 := hx8 ▸ (k8.set rfl _ _)
    rw [← hx8]
    clear p8 k8 hx8
    obtain ⟨x9, hx9⟩ : ∃ x9, x9 = x8.setCell ⟨B + 1, 9, none⟩ (.int .i64 (cutF c.quantum 1 30)) := ⟨_, rfl⟩
    have p10 : x9.heap[B + 1]? = some (.cells #[(.int .i64 1000), (.int .i64 (cutF c.slots 1 4)), (.int .i64 16), (.int .i64 (cutF c.queue 0 4)), (.int .i64 (cutF c.tries 1 3)), (.int .i64 (cutF c.preempts 0 2)), (.int .i64 (cutF c.timeout 1 4)), (.int .i64 (cutF c.backoff 1 3)), (.int .i64 (cutF c.most 1 6)), (.int .i64 (cutF c.quantum 1 30))] 26 (0, 0)) := hx9 ▸ blk_put p9 9 (.int .i64 (cutF c.quantum 1 30)) rfl
    have k10 : Chg (fun k => k = B + 1) wd x9 := hx9 ▸ (k9.set rfl _ _)
    rw [← hx9]
    clear p9 k9 hx9
    have y0 : x9.cell? ⟨B + 1, 0, none⟩ = some (.int .i64 1000) := (blk_cell p10 0).trans rfl
    have y1 : x9.cell? ⟨B + 1, 1, none⟩ = some (.int .i64 (cutF c.slots 1 4)) := (blk_cell p10 1).trans rfl
    have y2 : x9.cell? ⟨B + 1, 2, none⟩ = some (.int .i64 16) := (blk_cell p10 2).trans rfl
    have y3 : x9.cell? ⟨B + 1, 3, none⟩ = some (.int .i64 (cutF c.queue 0 4)) := (blk_cell p10 3).trans rfl
    have y4 : x9.cell? ⟨B + 1, 4, none⟩ = some (.int .i64 (cutF c.tries 1 3)) := (blk_cell p10 4).trans rfl
    have y5 : x9.cell? ⟨B + 1, 5, none⟩ = some (.int .i64 (cutF c.preempts 0 2)) := (blk_cell p10 5).trans rfl
    have y6 : x9.cell? ⟨B + 1, 6, none⟩ = some (.int .i64 (cutF c.timeout 1 4)) := (blk_cell p10 6).trans rfl
    have y7 : x9.cell? ⟨B + 1, 7, none⟩ = some (.int .i64 (cutF c.backoff 1 3)) := (blk_cell p10 7).trans rfl
    have y8 : x9.cell? ⟨B + 1, 8, none⟩ = some (.int .i64 (cutF c.most 1 6)) := (blk_cell p10 8).trans rfl
    have y9 : x9.cell? ⟨B + 1, 9, none⟩ = some (.int .i64 (cutF c.quantum 1 30)) := (blk_cell p10 9).trans rfl
    clear p10
    refine bodyPost_ret (v := .agg (encCf (cfgWide c))) (by simp [results, Tryz.results12, go_sem, encCf, cfgWide, y0, y1, y2, y3, y4, y5, y6, y7, y8, y9]) rfl ?_
    have h1 := HL.out.1
    have h2 := HL.out.2
    exact ⟨rfl, Chg.to_below (Chg.to_below hB3.out hcd (fun k hk => by rw [hk]; omega)) k10 (fun k hk => by rw [hk]; omega)⟩
end Go.Proofs.YtbpoapfkeinjnaaGreatDoor.Ld
namespace Go.Proofs.YtbpoapfkeinjnaaGreatDoor.Ld
open Go.RowKit Go.Proofs.YtbpoapfkeinjnaaGreatDoorW.PrintWords Go.Proofs.YtbpoapfkeinjnaaGreatDoorW.PrintLast Go.Proofs.YtbpoapfkeinjnaaGreatDoorW.PrintMore
set_option linter.unusedVariables false
set_option linter.unusedSimpArgs false
set_option linter.unnecessarySimpa false
set_option maxHeartbeats 8000000 in
set_option maxRecDepth 100000 in
theorem works_calls (bm : Nat) (w : World) (hv : Vars bm w) : Calls Tryz.prog 5 #[] w fun en w' => en = .returned (.bool true) ∧ Below w.heap.size w w' := by
  have HV := Aside0.mk hv
  clear hv
  have HS0 := Aside0.mk (sub_start kcW 1 1 (fun _ => 2) kcW_ok ⟨by decide, by decide⟩)
  go_enter Tryz.func5, Tryz.ntmps5
  go_upto_region 4 with (first
    | (go_at_call 12; go_loud (refine (config_calls ⟨0, 0, 0, 0, 0, 0, 0, 0, 0, 0⟩ _).mono ?_); rintro en w1 ⟨rfl, hb⟩; rw [cfgWide_zero]; have HB1 := Aside0.mk hb; clear hb)
    | (go_at_call 11; go_loud (refine (tasks_nil _).mono ?_); rintro en w2 ⟨v, rfl, hn⟩; obtain ⟨A, cl, rfl⟩ := hn.1.slice; have HN2 := Aside0.mk hn; clear hn)
    | (go_at_call 7; go_loud (refine (made_calls cfgW kcW_ok.c 1 ⟨by decide, by decide⟩ (fun _ => 1) (fun _ => 1) (fun _ _ => by decide) A cl (fun k => w1.heap.size ≤ k) _ HN2.out.1).mono ?_); rintro en w3 ⟨g, K, rfl, hg, hat, hb⟩; have HL3 := Aside0.mk (LW.start HV.out (below_step HB1.out HN2.out.2) hat hb); clear hg hat hb))
  obtain ⟨S3, hS3⟩ : ∃ S3 : Nat → Prop, (fun k => w2.heap.size ≤ k ∧ k < w3.heap.size) = S3 := ⟨_, rfl⟩
  rw [hS3] at HL3
  clear hS3
  go_upto_region 5 with (go_at_call 8; go_loud (refine (doSubmit (C := kcW) (cost := 1) (n := 1) (wt := fun _ => 2) HS0.out (by decide) ⟨by decide, by decide⟩ 2 3 rfl rfl HL3.out.at_ HL3.out.glb).mono ?_); rintro en w4 ⟨a, b, cc, d, f, er, e4, K4, rfl, hq, hto⟩; obtain ⟨rfl, -, hsub⟩ := hq.out; have HL4 := Aside0.mk (HL3.out.step hto.out); have HM4 := Aside0.mk (hsub.mid ⟨by decide, by decide⟩ (fun _ _ => ⟨by decide, by decide⟩)); clear hq hto hsub)
  obtain ⟨w5, hw5⟩ : ∃ w5, w5 = w4.alloc (.cells #[.int .i64 a, .int .i64 b, .int .i64 cc, .int .i64 d, .int .i64 f] 34) := ⟨_, rfl⟩
  rw [← hw5]
  have HL5 := Aside0.mk (HL4.out.below (show Below w4.heap.size w4 w5 from hw5 ▸ below_alloc (Below.refl _ w4) _))
  clear hw5
  obtain ⟨S5, hS5⟩ : ∃ S5 : Nat → Prop, nextS S3 w3 w4 = S5 := ⟨_, rfl⟩
  rw [hS5] at HL5
  clear hS5 HL4 HL3
  go_upto_region 6 with (go_at_call 8; go_loud (refine (doDispatch (C := kcW) (cost := 1) HM4.out ⟨by decide, by decide⟩ (by decide) (by decide) HL5.out.at_ HL5.out.glb).mono ?_); rintro en w6 ⟨a6, b6, c6, d6, f6, er, e6, K6, rfl, hq, hto⟩; obtain ⟨rfl, b, hb1, -, rfl, hep, hmid, -⟩ := hq.out; obtain rfl : b = 0 := (by omega); have HL6 := Aside0.mk (HL5.out.step hto.out); have HM6 := Aside0.mk hmid; have HEP := Aside0.mk hep; clear hq hto hmid hep hb1)
  obtain ⟨w7, hw7⟩ : ∃ w7, w7 = w6.alloc (.cells #[.int .i64 a6, .int .i64 b6, .int .i64 c6, .int .i64 0, .int .i64 f6] 34) := ⟨_, rfl⟩
  rw [← hw7]
  have HX7 := Aside0.mk (show w7.heap[w6.heap.size]? = some (.cells #[.int .i64 a6, .int .i64 b6, .int .i64 c6, .int .i64 0, .int .i64 f6] 34 (0, 0)) from hw7 ▸ heap_alloc_new w6 _)
  have HL7 := Aside0.mk (HL6.out.below (show Below w6.heap.size w6 w7 from hw7 ▸ below_alloc (Below.refl _ w6) _))
  clear hw7
  have x3 := (blk_cell HX7.out 3).trans (show _ = some (Value.int .i64 0) from rfl)
  have x4 := (blk_cell HX7.out 4).trans (show _ = some (Value.int .i64 f6) from rfl)
  obtain ⟨S7, hS7⟩ : ∃ S7 : Nat → Prop, nextS S5 w5 w6 = S7 := ⟨_, rfl⟩
  rw [hS7] at HL7
  clear hS7 HL6 HL5
  go_upto_region 7 with (go_at_call 8; go_loud (refine (doDid HM6.out rfl (by decide) HL7.out.at_ HL7.out.glb f6 HEP.out).mono ?_); rintro en w8 ⟨a8, b8, c8, d8, f8, er, e8, K8, rfl, hq, hto⟩; obtain ⟨rfl, hfin⟩ := hq.out; have HL8 := Aside0.mk (HL7.out.step hto.out); have HM8 := Aside0.mk hfin; clear hq hto hfin)
  clear x3 x4
  obtain ⟨w9, hw9⟩ : ∃ w9, w9 = w8.alloc (.cells #[.int .i64 a8, .int .i64 b8, .int .i64 c8, .int .i64 d8, .int .i64 f8] 34) := ⟨_, rfl⟩
  rw [← hw9]
  have HL9 := Aside0.mk (HL8.out.below (show Below w8.heap.size w8 w9 from hw9 ▸ below_alloc (Below.refl _ w8) _))
  clear hw9
  obtain ⟨S9, hS9⟩ : ∃ S9 : Nat → Prop, nextS S7 w7 w8 = S9 := ⟨_, rfl⟩
  rw [hS9] at HL9
  clear hS9 HL8 HL7
  go_upto_region 8 with (go_at_call 8; go_loud (refine (doQuery0 HM8.out HL9.out.at_ HL9.out.glb).mono ?_); rintro en wa ⟨aa, ba, ca, da, fa, er, ea, Ka, rfl, hq, hto⟩; obtain ⟨rfl, rfl, -⟩ := hq.out; have HLa := Aside0.mk (HL9.out.step hto.out); clear hq hto)
  obtain ⟨wb, hwb⟩ : ∃ wb, wb = wa.alloc (.cells #[.int .i64 aa, .int .i64 2, .int .i64 ca, .int .i64 da, .int .i64 fa] 34) := ⟨_, rfl⟩
  rw [← hwb]
  have HXb := Aside0.mk (show wb.heap[wa.heap.size]? = some (.cells #[.int .i64 aa, .int .i64 2, .int .i64 ca, .int .i64 da, .int .i64 fa] 34 (0, 0)) from hwb ▸ heap_alloc_new wa _)
  have HLb := Aside0.mk (HLa.out.below (show Below wa.heap.size wa wb from hwb ▸ below_alloc (Below.refl _ wa) _))
  clear hwb
  have y1 := (blk_cell HXb.out 1).trans (show _ = some (Value.int .i64 2) from rfl)
  go_wp2
  go_ret
  exact ⟨rfl, HLb.out.bel⟩
end Go.Proofs.YtbpoapfkeinjnaaGreatDoor.Ld
namespace Go.Proofs.YtbpoapfkeinjnaaGreatDoor.Fl
open Ieee
set_option linter.unusedSimpArgs false
set_option linter.unusedVariables false

theorem d_sw : double.signWeight = 2 ^ 63 := rfl
theorem d_bin : double.binade = 2 ^ 52 := rfl
theorem d_inf : double.infRung = 2047 * 2 ^ 52 := rfl
theorem d_least : double.leastPlace = -1074 := rfl
theorem d_fb : double.fractionBits = 52 := rfl

def Is (x : Nat) (n : Int) : Prop := ∃ (s : Bool) (m p : Nat), double.read x = .number s m (-(p : Int)) ∧ signed s m 0 = n * ((2 ^ p : Nat) : Int)

theorem word_sign (s : Bool) (r : Nat) (h : r < 2 ^ 63) : (double.word s r / double.signWeight % 2 == 1) = s := by
  rw [d_sw]; unfold Format.word; rw [d_sw]
  cases s
  · simp; omega
  · simp; omega
theorem word_rung (s : Bool) (r : Nat) (h : r < 2 ^ 63) : double.word s r % double.signWeight = r := by
  rw [d_sw]; unfold Format.word; rw [d_sw]
  cases s
  · simp; omega
  · simp; omega

theorem read_lo (s : Bool) (r : Nat) (h : r < 2 ^ 52) : double.read (double.word s r) = .number s r (-1074) := by
  unfold Format.read
  simp only [word_sign s r (by omega), word_rung s r (by omega)]
  rw [d_bin, if_pos h, d_least]
theorem read_hi (s : Bool) (r : Nat) (h1 : 2 ^ 52 ≤ r) (h2 : r < 2047 * 2 ^ 52) : double.read (double.word s r) = .number s (2 ^ 52 + r % 2 ^ 52) (-1074 + (r / 2 ^ 52 - 1 : Nat)) := by
  unfold Format.read
  simp only [word_sign s r (by omega), word_rung s r (by omega)]
  rw [d_bin, if_neg (by omega), d_inf, if_pos h2, d_least]

theorem cut_zero (way : Toward) (s : Bool) (n : Nat) : way.cut s n 0 = n := by
  unfold Toward.cut
  cases way <;> simp [Nat.mod_one]

theorem mul_ne (a p : Nat) (h : a ≠ 0) : a * 2 ^ p ≠ 0 := Nat.mul_ne_zero h (by have := Nat.two_pow_pos p; omega)

theorem cut_exact (s : Bool) (q d : Nat) (hq : q ≠ 0) : Toward.even.cut s (q * 2 ^ d) d = q := by
  have hl : d ≤ (q * 2 ^ d).log2 := (Nat.le_log2 (mul_ne q d hq)).2 (Nat.le_mul_of_pos_left _ (by omega))
  have hp : 0 < 2 ^ d := Nat.two_pow_pos _
  unfold Toward.cut
  simp only [Nat.min_eq_left (show d ≤ (q * 2 ^ d).log2 + 2 by omega), Nat.one_shiftLeft, Nat.mul_mod_left, Nat.mul_div_cancel _ hp]
  have : ¬ (2 ^ d < 2 * 0) := by omega
  have : ¬ (2 ^ d = 2 * 0) := by omega
  simp

theorem log2_scale (a p : Nat) (h : a ≠ 0) : (a * 2 ^ p).log2 = a.log2 + p := by
  have h1 : 2 ^ a.log2 ≤ a := Nat.log2_self_le h
  have h2 : a < 2 ^ (a.log2 + 1) := Nat.lt_log2_self
  refine (Nat.log2_eq_iff (mul_ne a p h)).2 ⟨?_, ?_⟩
  · rw [Nat.pow_add]; exact Nat.mul_le_mul_right _ h1
  · rw [show a.log2 + p + 1 = (a.log2 + 1) + p by omega, Nat.pow_add]; exact Nat.mul_lt_mul_of_pos_right h2 (Nat.two_pow_pos _)

theorem nearest_zero (s : Bool) (p : Int) : double.nearest s 0 p = double.word s 0 := by
  unfold Format.nearest; simp

theorem nearest_eq (s : Bool) (a p : Nat) (h0 : a ≠ 0) (h1 : a < 2 ^ 53) :
    double.nearest s (a * 2 ^ p) (-(p : Int)) = double.word s ((1022 + a.log2) * 2 ^ 52 + a * 2 ^ (52 - a.log2)) := by
  have hL : a.log2 < 53 := (Nat.log2_lt h0).2 h1
  have hK : a * 2 ^ (52 - a.log2) < 2 ^ 53 := by
    have h2 : a < 2 ^ (a.log2 + 1) := Nat.lt_log2_self
    calc a * 2 ^ (52 - a.log2) < 2 ^ (a.log2 + 1) * 2 ^ (52 - a.log2) := Nat.mul_lt_mul_of_pos_right h2 (Nat.two_pow_pos _)
      _ = 2 ^ 53 := by rw [← Nat.pow_add]; congr 1; omega
  have hm : a * 2 ^ p ≠ 0 := mul_ne a p h0
  unfold Format.nearest
  rw [if_neg hm]
  have hlast : max (-(p : Int) + ((a * 2 ^ p).log2 : Nat) - (double.fractionBits : Nat)) double.leastPlace = (a.log2 : Int) - 52 := by
    rw [log2_scale a p h0, d_fb, d_least]; omega
  simp only [hlast]
  rw [d_least, d_bin, d_inf]
  have hkept : Toward.even.cut s ((a * 2 ^ p) <<< (-(p : Int) - ((a.log2 : Int) - 52)).toNat) ((a.log2 : Int) - 52 - -(p : Int)).toNat = a * 2 ^ (52 - a.log2) := by
    by_cases c : p ≤ 52 - a.log2
    · have e1 : (-(p : Int) - ((a.log2 : Int) - 52)).toNat = 52 - a.log2 - p := by omega
      have e2 : ((a.log2 : Int) - 52 - -(p : Int)).toNat = 0 := by omega
      rw [e1, e2, cut_zero, Nat.shiftLeft_eq, Nat.mul_assoc, ← Nat.pow_add]
      congr 2; omega
    · have e1 : (-(p : Int) - ((a.log2 : Int) - 52)).toNat = 0 := by omega
      have e2 : ((a.log2 : Int) - 52 - -(p : Int)).toNat = p - (52 - a.log2) := by omega
      rw [e1, e2, Nat.shiftLeft_zero]
      have e3 : a * 2 ^ p = a * 2 ^ (52 - a.log2) * 2 ^ (p - (52 - a.log2)) := by
        rw [Nat.mul_assoc, ← Nat.pow_add]; congr 2; omega
      rw [e3, cut_exact _ _ _ (mul_ne a _ h0)]
  rw [hkept]
  have e4 : ((a.log2 : Int) - 52 - -1074).toNat = 1022 + a.log2 := by omega
  rw [e4, Nat.min_eq_left (by omega)]

theorem read_nearest (s : Bool) (a p : Nat) (h0 : a ≠ 0) (h1 : a < 2 ^ 53) :
    double.read (double.nearest s (a * 2 ^ p) (-(p : Int))) = .number s (a * 2 ^ (52 - a.log2)) (-((52 - a.log2 : Nat) : Int)) := by
  have hL : a.log2 < 53 := (Nat.log2_lt h0).2 h1
  have hK : a * 2 ^ (52 - a.log2) < 2 ^ 53 := by
    have h2 : a < 2 ^ (a.log2 + 1) := Nat.lt_log2_self
    calc a * 2 ^ (52 - a.log2) < 2 ^ (a.log2 + 1) * 2 ^ (52 - a.log2) := Nat.mul_lt_mul_of_pos_right h2 (Nat.two_pow_pos _)
      _ = 2 ^ 53 := by rw [← Nat.pow_add]; congr 1; omega
  have hK2 : 2 ^ 52 ≤ a * 2 ^ (52 - a.log2) := by
    have h2 : 2 ^ a.log2 ≤ a := Nat.log2_self_le h0
    calc 2 ^ 52 = 2 ^ a.log2 * 2 ^ (52 - a.log2) := by rw [← Nat.pow_add]; congr 1; omega
      _ ≤ _ := Nat.mul_le_mul_right _ h2
  rw [nearest_eq s a p h0 h1, read_hi s _ (by omega) (by omega)]
  congr 1
  · omega
  · omega

theorem is_nearest (s : Bool) (m p : Nat) (n : Int) (h : signed s m 0 = n * ((2 ^ p : Nat) : Int)) (hn : n.natAbs < 2 ^ 53) : Is (double.nearest s m (-(p : Int))) n := by
  have hp : (0 : Int) < ((2 ^ p : Nat) : Int) := by have := Nat.two_pow_pos p; omega
  have hm : m = n.natAbs * 2 ^ p := by
    have h2 := congrArg Int.natAbs h
    rw [Int.natAbs_mul, Int.natAbs_natCast] at h2
    rw [← h2]; unfold signed; cases s <;> simp
  by_cases h0 : n = 0
  · subst h0
    simp at hm; subst hm
    rw [nearest_zero]
    exact ⟨s, 0, 1074, read_lo s 0 (by omega), by unfold signed; generalize 2 ^ 1074 = q; cases s <;> simp⟩
  · have ha : n.natAbs ≠ 0 := by omega
    rw [hm]
    refine ⟨s, _, _, read_nearest s n.natAbs p ha hn, ?_⟩
    have hs : s = decide (n < 0) := by
      unfold signed at h
      have hmpos : 0 < m := by rw [hm]; exact Nat.mul_pos (by omega) (Nat.two_pow_pos p)
      cases s
      · simp at h
        have : 0 < n * ((2 ^ p : Nat) : Int) := by simp; omega
        have := Int.pos_of_mul_pos_left this hp
        simp; omega
      · simp at h
        have h3 : 0 < (-n) * ((2 ^ p : Nat) : Int) := by rw [Int.neg_mul]; simp; omega
        have := Int.pos_of_mul_pos_left h3 hp
        simp; omega
    have e : ((n.natAbs * 2 ^ (52 - n.natAbs.log2) : Nat) : Int) = (n.natAbs : Int) * ((2 ^ (52 - n.natAbs.log2) : Nat) : Int) := by push_cast; rfl
    unfold signed
    rw [Nat.shiftLeft_zero, e]
    by_cases hneg : n < 0
    · simp only [hs, hneg, decide_true, if_true]
      rw [← Int.neg_mul]; congr 1; omega
    · simp only [hs, hneg, decide_false, Bool.false_eq_true, if_false]
      congr 1; omega

theorem is_write (s : Bool) (m p : Nat) (n : Int) (h : signed s m 0 = n * ((2 ^ p : Nat) : Int)) (hn : n.natAbs < 2 ^ 53) : Is (double.write (.number s m (-(p : Int)))) n := is_nearest s m p n h hn

theorem is_ofInt (n : Int) (hn : n.natAbs < 2 ^ 53) : Is (Go.floatOfInt .f64 n) n := by
  refine is_write (decide (n < 0)) n.natAbs 0 n ?_ hn
  unfold signed
  by_cases c : n < 0
  · simp [c]; omega
  · simp [c]; omega

theorem signed_up (s : Bool) (m u : Nat) : signed s m u = signed s m 0 * ((2 ^ u : Nat) : Int) := by
  unfold signed
  rw [Nat.shiftLeft_eq, Nat.shiftLeft_zero]
  cases s <;> simp [Int.neg_mul]

theorem two_pow_split (p q : Nat) (h : p ≤ q) : ((2 ^ q : Nat) : Int) = ((2 ^ p : Nat) : Int) * ((2 ^ (q - p) : Nat) : Int) := by
  rw [← Int.natCast_mul, ← Nat.pow_add]; congr 2; omega

theorem sum_signed {s t : Bool} {m n p q : Nat} {a b : Int} (h1 : signed s m 0 = a * ((2 ^ p : Nat) : Int)) (h2 : signed t n 0 = b * ((2 ^ q : Nat) : Int)) :
    signed s m (-(p : Int) - min (-(p : Int)) (-(q : Int))).toNat + signed t n (-(q : Int) - min (-(p : Int)) (-(q : Int))).toNat = (a + b) * ((2 ^ (max p q) : Nat) : Int) := by
  rw [signed_up s m, signed_up t n, h1, h2]
  rcases Nat.le_total p q with c | c
  · rw [show (-(p : Int) - min (-(p : Int)) (-(q : Int))).toNat = q - p by omega, show (-(q : Int) - min (-(p : Int)) (-(q : Int))).toNat = 0 by omega, Nat.max_eq_right c, two_pow_split p q c]
    simp only [Nat.pow_zero]
    rw [Int.add_mul, Int.mul_assoc, Int.mul_assoc b, ← Int.mul_assoc, ← Int.mul_assoc]
    simp
  · rw [show (-(p : Int) - min (-(p : Int)) (-(q : Int))).toNat = 0 by omega, show (-(q : Int) - min (-(p : Int)) (-(q : Int))).toNat = p - q by omega, Nat.max_eq_left c, two_pow_split q p c]
    simp only [Nat.pow_zero]
    rw [Int.add_mul, Int.mul_assoc b]
    simp

theorem signed_natAbs (b : Bool) (x : Int) (h : x ≠ 0 → b = decide (x < 0)) : signed b x.natAbs 0 = x := by
  by_cases c : x = 0
  · subst c; unfold signed; cases b <;> simp
  · rw [h c]; unfold signed
    by_cases d : x < 0
    · simp [d]; omega
    · simp [d]; omega

theorem is_sum {x y : Datum} {s t : Bool} {m n p q : Nat} {a b : Int} (h1 : x = .number s m (-(p : Int))) (h2 : signed s m 0 = a * ((2 ^ p : Nat) : Int)) (h3 : y = .number t n (-(q : Int))) (h4 : signed t n 0 = b * ((2 ^ q : Nat) : Int)) (h : (a + b).natAbs < 2 ^ 53) :
    ∃ r, (x.sum y).map double.write = some r ∧ Is r (a + b) := by
  subst h1 h3
  have hs := sum_signed h2 h4
  simp only [Datum.sum, Option.map_some]
  generalize hT : signed s m (-(p : Int) - min (-(p : Int)) (-(q : Int))).toNat + signed t n (-(q : Int) - min (-(p : Int)) (-(q : Int))).toNat = T at hs
  refine ⟨_, rfl, ?_⟩
  rw [show min (-(p : Int)) (-(q : Int)) = -((max p q : Nat) : Int) by omega]
  refine is_write _ _ _ _ ?_ h
  rw [← hs]
  refine signed_natAbs _ _ (fun hT0 => ?_)
  rw [if_neg hT0]

theorem signed_not (s : Bool) (m : Nat) : signed (!s) m 0 = - signed s m 0 := by unfold signed; cases s <;> simp

theorem is_add {x y : Nat} {a b : Int} (hx : Is x a) (hy : Is y b) (h : (a + b).natAbs < 2 ^ 53) : ∃ r, Go.floatBits .add .f64 x y = some r ∧ Is r (a + b) := by
  obtain ⟨s, m, p, h1, h2⟩ := hx
  obtain ⟨t, n, q, h3, h4⟩ := hy
  exact is_sum h1 h2 h3 h4 h

theorem is_sub {x y : Nat} {a b : Int} (hx : Is x a) (hy : Is y b) (h : (a - b).natAbs < 2 ^ 53) : ∃ r, Go.floatBits .sub .f64 x y = some r ∧ Is r (a - b) := by
  obtain ⟨s, m, p, h1, h2⟩ := hx
  obtain ⟨t, n, q, h3, h4⟩ := hy
  have h5 : (double.read y).opposite = .number (!t) n (-(q : Int)) := by rw [h3]; rfl
  have h6 : signed (!t) n 0 = (-b) * ((2 ^ q : Nat) : Int) := by rw [signed_not, h4, Int.neg_mul]
  have := is_sum h1 h2 h5 h6 (by rwa [← Int.sub_eq_add_neg])
  rw [← Int.sub_eq_add_neg] at this
  exact this

theorem is_mul {x y : Nat} {a b : Int} (hx : Is x a) (hy : Is y b) (h : (a * b).natAbs < 2 ^ 53) : ∃ r, Go.floatBits .mul .f64 x y = some r ∧ Is r (a * b) := by
  obtain ⟨s, m, p, h1, h2⟩ := hx
  obtain ⟨t, n, q, h3, h4⟩ := hy
  refine ⟨double.write (.number (s ^^ t) (m * n) (-(p : Int) + -(q : Int))), ?_, ?_⟩
  · show ((double.read x).product (double.read y)).map double.write = _
    rw [h1, h3]; rfl
  · rw [show -(p : Int) + -(q : Int) = -((p + q : Nat) : Int) by omega]
    refine is_write _ _ _ _ ?_ h
    have e : signed (s ^^ t) (m * n) 0 = signed s m 0 * signed t n 0 := by
      unfold signed
      simp only [Nat.shiftLeft_zero]
      cases s <;> cases t <;> simp [Int.neg_mul, Int.mul_neg]
    rw [e, h2, h4, Nat.pow_add, Int.natCast_mul, Int.mul_assoc, Int.mul_assoc]
    congr 1
    rw [← Int.mul_assoc, Int.mul_comm _ b, Int.mul_assoc]

theorem read_neg (x : Nat) (s : Bool) (m : Nat) (p : Int) (h : double.read x = .number s m p) : double.read (Go.Op.negFloat .f64 x) = .number (!s) m p := by
  have e1 : Go.Op.negFloat .f64 x % double.signWeight = x % double.signWeight := by
    show (x ^^^ 2 ^ 63) % 2 ^ 63 = x % 2 ^ 63
    rw [Nat.xor_mod_two_pow]; simp
  have e2 : (Go.Op.negFloat .f64 x / double.signWeight % 2 == 1) = !(x / double.signWeight % 2 == 1) := by
    show ((x ^^^ 2 ^ 63) / 2 ^ 63 % 2 == 1) = !(x / 2 ^ 63 % 2 == 1)
    rw [Nat.xor_div_two_pow]
    have : (x / 2 ^ 63 ^^^ 2 ^ 63 / 2 ^ 63) % 2 = (x / 2 ^ 63 % 2) ^^^ 1 := Nat.xor_mod_two_pow (n := 1)
    rw [this]
    rcases Nat.mod_two_eq_zero_or_one (x / 2 ^ 63) with c | c <;> rw [c] <;> rfl
  unfold Format.read at h ⊢
  simp only at h ⊢
  rw [e1, e2]
  split at h
  · rename_i c; rw [if_pos c]; cases h; rfl
  · rename_i c; rw [if_neg c]
    split at h
    · rename_i c2; rw [if_pos c2]; cases h; rfl
    · split at h <;> cases h

theorem is_neg {x : Nat} {a : Int} (hx : Is x a) : Is (Go.Op.negFloat .f64 x) (-a) := by
  obtain ⟨s, m, p, h1, h2⟩ := hx
  exact ⟨!s, m, p, read_neg x s m _ h1, by rw [signed_not, h2, Int.neg_mul]⟩

theorem is_order {x y : Nat} {a b : Int} (hx : Is x a) (hy : Is y b) : Go.FloatKind.f64.format.order x y = some (compare a b) := by
  obtain ⟨s, m, p, h1, h2⟩ := hx
  obtain ⟨t, n, q, h3, h4⟩ := hy
  show (double.read x).order (double.read y) = _
  rw [h1, h3]
  simp only [Datum.order]
  congr 1
  rw [signed_up s m, signed_up t n, h2, h4]
  have key : ∀ k : Nat, 0 < k → compare (a * (k : Int)) (b * (k : Int)) = compare a b := by
    intro k hk
    have hk' : (0 : Int) < (k : Int) := by omega
    show compareOfLessAndEq _ _ = compareOfLessAndEq _ _
    unfold compareOfLessAndEq
    rcases Int.lt_trichotomy a b with c | c | c
    · rw [if_pos c, if_pos (Int.mul_lt_mul_of_pos_right c hk')]
    · subst c; rw [if_neg (Int.lt_irrefl _), if_neg (Int.lt_irrefl _), if_pos rfl, if_pos rfl]
    · have d := Int.mul_lt_mul_of_pos_right c hk'
      rw [if_neg (by omega), if_neg (by omega), if_neg (by omega), if_neg (by omega)]
  rcases Nat.le_total p q with c | c
  · rw [show (-(p : Int) - min (-(p : Int)) (-(q : Int))).toNat = q - p by omega, show (-(q : Int) - min (-(p : Int)) (-(q : Int))).toNat = 0 by omega, Int.mul_assoc, ← two_pow_split p q c]
    simp only [Nat.pow_zero]
    rw [show ((1 : Nat) : Int) = 1 from rfl, Int.mul_one]
    exact key _ (Nat.two_pow_pos _)
  · rw [show (-(p : Int) - min (-(p : Int)) (-(q : Int))).toNat = 0 by omega, show (-(q : Int) - min (-(p : Int)) (-(q : Int))).toNat = p - q by omega, Int.mul_assoc b, ← two_pow_split q p c]
    simp only [Nat.pow_zero]
    rw [show ((1 : Nat) : Int) = 1 from rfl, Int.mul_one]
    exact key _ (Nat.two_pow_pos _)

theorem is_toInt {x : Nat} {a : Int} (hx : Is x a) (h : a.natAbs < 2 ^ 53) : Go.floatToIntVal .f64 x .i64 = some a := by
  obtain ⟨s, m, p, h1, h2⟩ := hx
  have hr : Go.FloatKind.f64.decode x = .number s m (-(p : Int)) := h1
  have hm : m = a.natAbs * 2 ^ p := by
    have h2 := congrArg Int.natAbs h2
    rw [Int.natAbs_mul, Int.natAbs_natCast] at h2
    rw [← h2]; unfold signed; cases s <;> simp
  have hc : Toward.zero.cut s m p = a.natAbs := by
    rw [hm]
    by_cases h0 : a.natAbs = 0
    · rw [h0]; unfold Toward.cut; simp
    have hl : p ≤ (a.natAbs * 2 ^ p).log2 := (Nat.le_log2 (mul_ne _ _ h0)).2 (Nat.le_mul_of_pos_left _ (by omega))
    unfold Toward.cut
    simp only [Nat.min_eq_left (show p ≤ (a.natAbs * 2 ^ p).log2 + 2 by omega), Nat.one_shiftLeft, Nat.mul_mod_left, Nat.mul_div_cancel _ (Nat.two_pow_pos p)]
    simp
  have ht : (Go.FloatKind.f64.decode x).toInt .zero = some a := by
    rw [hr]
    unfold Datum.toInt Datum.integral
    simp only
    rw [show (-(p : Int)).toNat = 0 by omega, show (- -(p : Int)).toNat = p by omega, Nat.shiftLeft_zero, hc]
    congr 1
    have hp : (0 : Int) < ((2 ^ p : Nat) : Int) := by have := Nat.two_pow_pos p; omega
    refine signed_natAbs s a (fun h0 => ?_)
    unfold signed at h2
    have hmpos : 0 < m := by rw [hm]; exact Nat.mul_pos (by omega) (Nat.two_pow_pos p)
    cases s
    · simp at h2
      have : 0 < a * ((2 ^ p : Nat) : Int) := by simp; omega
      have := Int.pos_of_mul_pos_left this hp
      simp; omega
    · simp at h2
      have h3 : 0 < (-a) * ((2 ^ p : Nat) : Int) := by rw [Int.neg_mul]; simp; omega
      have := Int.pos_of_mul_pos_left h3 hp
      simp; omega
  unfold Go.floatToIntVal
  rw [ht]
  simp only
  rw [if_pos]
  have e1 : Go.IntKind.i64.min = -2 ^ 63 := rfl
  have e2 : Go.IntKind.i64.max = 2 ^ 63 - 1 := rfl
  rw [e1, e2]; omega

end Go.Proofs.YtbpoapfkeinjnaaGreatDoor.Fl
