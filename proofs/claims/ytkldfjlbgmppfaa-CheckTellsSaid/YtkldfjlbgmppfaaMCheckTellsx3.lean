-- Written by a program of this session out of Lean's own print of the program. Not trusted: Lean checks it.
import Derived.Test.YtkldfjlbgmppfaaMCheckTellsx0
import Derived.Test.YtkldfjlbgmppfaaMCheckTellsx1
import Derived.Test.YtkldfjlbgmppfaaMCheckTellsx2
namespace Go.Proofs.Ytkldfjlbgmppfaa.MCheckTells
open Go.RowKit Go.Proofs.YtkldfjlbgmppfaaW.PrintWords Go.Proofs.YtkldfjlbgmppfaaW.PrintLast Go.Proofs.YtkldfjlbgmppfaaW.PrintMore
attribute [local go_sem] max2_int min2_int max_two min_two max_three min_three max_four min_four Wide.min_eight Wide.max_nine  -- for this text's walks alone
set_option linter.unusedVariables false
set_option linter.unusedSimpArgs false

/-! ### millwrightlaw04_CheckTells: function 3 -/
mutual
def millwrightlaw04_CheckTells.j0 : Nat → List (S39) → Bool → Bool → Option (Bool)
  | 0, _, _, _ => none
  | k + 1, x1, x5, x57 => if x57 = true then (some false) else (millwrightlaw04_CheckTells.l0 k x1 x5 0)
def millwrightlaw04_CheckTells.l0 : Nat → List (S39) → Bool → Int → Option (Bool)
  | 0, _, _, _ => none
  | k + 1, x1, x5, x11 => if x11 < (x1.length : Int) then (if 0 ≤ x11 then ((millwrightref04_Task.f ((rd_T39 x1 x11).f0) ((rd_T39 x1 x11).f1)).bind fun t194 => ((check_Task.f k ((rd_T39 x1 x11).f0) ((rd_T39 x1 x11).f1)).bind fun t196 => (if t196 = 0 then (if t194 = true then ((check_Task.f k ((rd_T39 x1 x11).f0) ((rd_T39 x1 x11).f1)).bind fun t198 => (if t198 = 3 then (some false) else (millwrightlaw04_CheckTells.l0 k x1 x5 (wrap64 (x11 + 1))))) else (some false)) else (if t194 = true then (some false) else ((check_Task.f k ((rd_T39 x1 x11).f0) ((rd_T39 x1 x11).f1)).bind fun t200 => (if t200 = 3 then (millwrightlaw04_CheckTells.l0 k x1 x5 (wrap64 (x11 + 1))) else (some false))))))) else (none)) else (some x5)
end
def millwrightlaw04_CheckTells.f (k : Nat) (a0_0 : Int) (a0_1 : Int) (a0_2 : Int) (a0_3 : Int) (a0_4 : Int) (a0_5 : Int) (a0_6 : Int) (a0_7 : Int) (a0_8 : Int) (a0_9 : Int) (l1 : List (S39)) : Option (Bool) := (millwrightlaw04_shown.f k).bind fun t177 => (if 0 ≤ (mn (l1.length : Int) 80) then (if (mn (l1.length : Int) 80) ≤ (l1.length : Int) then ((some (l1.take ((mn (l1.length : Int) 80) : Int).toNat : List (S39))).bind fun y178 => ((check_File.f k a0_0 a0_1 a0_2 a0_3 a0_4 a0_5 a0_6 a0_7 a0_8 a0_9 y178 (([(⟨(-5), 0, 0, 0, 0⟩ : S30)] : List (S30)))).bind fun bt185 => ((millwrightref04_File.f k a0_0 a0_1 a0_2 a0_3 a0_4 a0_5 a0_6 a0_7 a0_8 a0_9 y178).bind fun bt187 => ((millwrightref04_Config.f a0_0 a0_1 a0_2 a0_3 a0_4 a0_5 a0_6 a0_7 a0_8 a0_9).bind fun t189 => (if bt185.1 = bt187.1 then (if bt185.2 = bt187.2 then ((check_Config.f k a0_0 a0_1 a0_2 a0_3 a0_4 a0_5 a0_6 a0_7 a0_8 a0_9).bind fun t190 => (if t190 = 0 then (if t189 = true then ((check_Config.f k a0_0 a0_1 a0_2 a0_3 a0_4 a0_5 a0_6 a0_7 a0_8 a0_9).bind fun t191 => (if t191 = 3 then (millwrightlaw04_CheckTells.j0 k y178 t177 true) else (millwrightlaw04_CheckTells.j0 k y178 t177 false))) else (millwrightlaw04_CheckTells.j0 k y178 t177 true)) else (if t189 = true then (millwrightlaw04_CheckTells.j0 k y178 t177 true) else ((check_Config.f k a0_0 a0_1 a0_2 a0_3 a0_4 a0_5 a0_6 a0_7 a0_8 a0_9).bind fun t192 => (if t192 = 3 then (millwrightlaw04_CheckTells.j0 k y178 t177 false) else (millwrightlaw04_CheckTells.j0 k y178 t177 true)))))) else (millwrightlaw04_CheckTells.j0 k y178 t177 true)) else (millwrightlaw04_CheckTells.j0 k y178 t177 true)))))) else (none)) else (none))
theorem millwrightlaw04_CheckTells.mono_l : ∀ k, (∀ y0 y1 y2, LeO (millwrightlaw04_CheckTells.j0 k y0 y1 y2) (millwrightlaw04_CheckTells.j0 (k + 1) y0 y1 y2)) ∧ (∀ y0 y1 y2, LeO (millwrightlaw04_CheckTells.l0 k y0 y1 y2) (millwrightlaw04_CheckTells.l0 (k + 1) y0 y1 y2))
  | 0 => ⟨fun _ _ _ r h => by simp [millwrightlaw04_CheckTells.j0] at h, fun _ _ _ r h => by simp [millwrightlaw04_CheckTells.l0] at h⟩
  | k + 1 => by
    obtain ⟨ih0, ih1⟩ := millwrightlaw04_CheckTells.mono_l k
    refine ⟨?_, ?_⟩
    · intro y0 y1 y2
      unfold millwrightlaw04_CheckTells.j0
      repeat' first
      | (with_reducible exact ih0 _ _ _)
      | (with_reducible exact ih1 _ _ _)
      | (with_reducible exact check_Config.mono _ _ _ _ _ _ _ _ _ _ _)
      | (with_reducible exact check_File.mono _ _ _ _ _ _ _ _ _ _ _ _ _)
      | (with_reducible exact check_Task.mono _ _ _)
      | (with_reducible exact millwrightlaw04_shown.mono _)
      | (with_reducible exact millwrightref04_File.mono _ _ _ _ _ _ _ _ _ _ _ _)
      | (with_reducible exact LeO.refl _)
      | (with_reducible exact LeO.none _)
      | (with_reducible refine LeO.ite ?_ ?_)
      | (with_reducible refine LeO.bind ?_ (fun _ => ?_))
      | exact ih0 _ _ _
      | exact ih1 _ _ _
      | exact check_Config.mono _ _ _ _ _ _ _ _ _ _ _
      | exact check_File.mono _ _ _ _ _ _ _ _ _ _ _ _ _
      | exact check_Task.mono _ _ _
      | exact millwrightlaw04_shown.mono _
      | exact millwrightref04_File.mono _ _ _ _ _ _ _ _ _ _ _ _
      | exact LeO.none _
      | refine LeO.ite ?_ ?_
      | refine LeO.bind ?_ (fun _ => ?_)
    · intro y0 y1 y2
      unfold millwrightlaw04_CheckTells.l0
      repeat' first
      | (with_reducible exact ih0 _ _ _)
      | (with_reducible exact ih1 _ _ _)
      | (with_reducible exact check_Config.mono _ _ _ _ _ _ _ _ _ _ _)
      | (with_reducible exact check_File.mono _ _ _ _ _ _ _ _ _ _ _ _ _)
      | (with_reducible exact check_Task.mono _ _ _)
      | (with_reducible exact millwrightlaw04_shown.mono _)
      | (with_reducible exact millwrightref04_File.mono _ _ _ _ _ _ _ _ _ _ _ _)
      | (with_reducible exact LeO.refl _)
      | (with_reducible exact LeO.none _)
      | (with_reducible refine LeO.ite ?_ ?_)
      | (with_reducible refine LeO.bind ?_ (fun _ => ?_))
      | exact ih0 _ _ _
      | exact ih1 _ _ _
      | exact check_Config.mono _ _ _ _ _ _ _ _ _ _ _
      | exact check_File.mono _ _ _ _ _ _ _ _ _ _ _ _ _
      | exact check_Task.mono _ _ _
      | exact millwrightlaw04_shown.mono _
      | exact millwrightref04_File.mono _ _ _ _ _ _ _ _ _ _ _ _
      | exact LeO.none _
      | refine LeO.ite ?_ ?_
      | refine LeO.bind ?_ (fun _ => ?_)
theorem millwrightlaw04_CheckTells.mono : ∀ a0 a1 a2 a3 a4 a5 a6 a7 a8 a9 a10 k, LeO (millwrightlaw04_CheckTells.f k a0 a1 a2 a3 a4 a5 a6 a7 a8 a9 a10) (millwrightlaw04_CheckTells.f (k + 1) a0 a1 a2 a3 a4 a5 a6 a7 a8 a9 a10) := by
  intro a0 a1 a2 a3 a4 a5 a6 a7 a8 a9 a10 k
  obtain ⟨ih0, ih1⟩ := millwrightlaw04_CheckTells.mono_l k
  unfold millwrightlaw04_CheckTells.f
  repeat' first
      | (with_reducible exact ih0 _ _ _)
      | (with_reducible exact ih1 _ _ _)
      | (with_reducible exact check_Config.mono _ _ _ _ _ _ _ _ _ _ _)
      | (with_reducible exact check_File.mono _ _ _ _ _ _ _ _ _ _ _ _ _)
      | (with_reducible exact check_Task.mono _ _ _)
      | (with_reducible exact millwrightlaw04_shown.mono _)
      | (with_reducible exact millwrightref04_File.mono _ _ _ _ _ _ _ _ _ _ _ _)
      | (with_reducible exact LeO.refl _)
      | (with_reducible exact LeO.none _)
      | (with_reducible refine LeO.ite ?_ ?_)
      | (with_reducible refine LeO.bind ?_ (fun _ => ?_))
      | exact ih0 _ _ _
      | exact ih1 _ _ _
      | exact check_Config.mono _ _ _ _ _ _ _ _ _ _ _
      | exact check_File.mono _ _ _ _ _ _ _ _ _ _ _ _ _
      | exact check_Task.mono _ _ _
      | exact millwrightlaw04_shown.mono _
      | exact millwrightref04_File.mono _ _ _ _ _ _ _ _ _ _ _ _
      | exact LeO.none _
      | refine LeO.ite ?_ ?_
      | refine LeO.bind ?_ (fun _ => ?_)
set_option maxHeartbeats 8000000 in
set_option maxRecDepth 100000 in
theorem millwrightlaw04_CheckTells.calls (k : Nat) (a0_0 : Int) (a0_1 : Int) (a0_2 : Int) (a0_3 : Int) (a0_4 : Int) (a0_5 : Int) (a0_6 : Int) (a0_7 : Int) (a0_8 : Int) (a0_9 : Int) (A1 : Option Addr) (c1 : Nat) (l1 : List (S39)) (w : World) (hr1 : Kd.C k39 w A1 l1.length l1) (hc1 : l1.length ≤ c1) (h : millwrightlaw04_CheckTells.f k a0_0 a0_1 a0_2 a0_3 a0_4 a0_5 a0_6 a0_7 a0_8 a0_9 l1 = some true) :
    Calls Try.prog 3 #[.agg #[.int .i64 a0_0, .int .i64 a0_1, .int .i64 a0_2, .int .i64 a0_3, .int .i64 a0_4, .int .i64 a0_5, .int .i64 a0_6, .int .i64 a0_7, .int .i64 a0_8, .int .i64 a0_9], .slice A1 l1.length c1] w fun e w' => e = .returned (.bool true) ∧ Below w.heap.size w w' := by
  have hu23 := Try.underlying23
  have hu30 := Try.underlying30
  have hu33 := Try.underlying33
  have hu39 := Try.underlying39
  have HR1 := Aside0.mk hr1
  have HC1 := Aside0.mk hc1
  clear hr1 hc1
  have HB := Aside0.mk (Below.refl w.heap.size w)
  have H : ((millwrightlaw04_shown.f k).bind fun t177 => (if 0 ≤ (mn (l1.length : Int) 80) then (if (mn (l1.length : Int) 80) ≤ (l1.length : Int) then ((some (l1.take ((mn (l1.length : Int) 80) : Int).toNat : List (S39))).bind fun y178 => ((check_File.f k a0_0 a0_1 a0_2 a0_3 a0_4 a0_5 a0_6 a0_7 a0_8 a0_9 y178 (([(⟨(-5), 0, 0, 0, 0⟩ : S30)] : List (S30)))).bind fun bt185 => ((millwrightref04_File.f k a0_0 a0_1 a0_2 a0_3 a0_4 a0_5 a0_6 a0_7 a0_8 a0_9 y178).bind fun bt187 => ((millwrightref04_Config.f a0_0 a0_1 a0_2 a0_3 a0_4 a0_5 a0_6 a0_7 a0_8 a0_9).bind fun t189 => (if bt185.1 = bt187.1 then (if bt185.2 = bt187.2 then ((check_Config.f k a0_0 a0_1 a0_2 a0_3 a0_4 a0_5 a0_6 a0_7 a0_8 a0_9).bind fun t190 => (if t190 = 0 then (if t189 = true then ((check_Config.f k a0_0 a0_1 a0_2 a0_3 a0_4 a0_5 a0_6 a0_7 a0_8 a0_9).bind fun t191 => (if t191 = 3 then (millwrightlaw04_CheckTells.j0 k y178 t177 true) else (millwrightlaw04_CheckTells.j0 k y178 t177 false))) else (millwrightlaw04_CheckTells.j0 k y178 t177 true)) else (if t189 = true then (millwrightlaw04_CheckTells.j0 k y178 t177 true) else ((check_Config.f k a0_0 a0_1 a0_2 a0_3 a0_4 a0_5 a0_6 a0_7 a0_8 a0_9).bind fun t192 => (if t192 = 3 then (millwrightlaw04_CheckTells.j0 k y178 t177 false) else (millwrightlaw04_CheckTells.j0 k y178 t177 true)))))) else (millwrightlaw04_CheckTells.j0 k y178 t177 true)) else (millwrightlaw04_CheckTells.j0 k y178 t177 true)))))) else (none)) else (none))) = some true := h
  clear h
  replace H := Option.bind_eq_some_iff.mp H
  obtain ⟨t177, A30, H⟩ := H
  replace H : (if 0 ≤ (mn (l1.length : Int) 80) then (if (mn (l1.length : Int) 80) ≤ (l1.length : Int) then ((some (l1.take ((mn (l1.length : Int) 80) : Int).toNat : List (S39))).bind fun y178 => ((check_File.f k a0_0 a0_1 a0_2 a0_3 a0_4 a0_5 a0_6 a0_7 a0_8 a0_9 y178 (([(⟨(-5), 0, 0, 0, 0⟩ : S30)] : List (S30)))).bind fun bt185 => ((millwrightref04_File.f k a0_0 a0_1 a0_2 a0_3 a0_4 a0_5 a0_6 a0_7 a0_8 a0_9 y178).bind fun bt187 => ((millwrightref04_Config.f a0_0 a0_1 a0_2 a0_3 a0_4 a0_5 a0_6 a0_7 a0_8 a0_9).bind fun t189 => (if bt185.1 = bt187.1 then (if bt185.2 = bt187.2 then ((check_Config.f k a0_0 a0_1 a0_2 a0_3 a0_4 a0_5 a0_6 a0_7 a0_8 a0_9).bind fun t190 => (if t190 = 0 then (if t189 = true then ((check_Config.f k a0_0 a0_1 a0_2 a0_3 a0_4 a0_5 a0_6 a0_7 a0_8 a0_9).bind fun t191 => (if t191 = 3 then (millwrightlaw04_CheckTells.j0 k y178 t177 true) else (millwrightlaw04_CheckTells.j0 k y178 t177 false))) else (millwrightlaw04_CheckTells.j0 k y178 t177 true)) else (if t189 = true then (millwrightlaw04_CheckTells.j0 k y178 t177 true) else ((check_Config.f k a0_0 a0_1 a0_2 a0_3 a0_4 a0_5 a0_6 a0_7 a0_8 a0_9).bind fun t192 => (if t192 = 3 then (millwrightlaw04_CheckTells.j0 k y178 t177 false) else (millwrightlaw04_CheckTells.j0 k y178 t177 true)))))) else (millwrightlaw04_CheckTells.j0 k y178 t177 true)) else (millwrightlaw04_CheckTells.j0 k y178 t177 true)))))) else (none)) else (none)) = some true := H
  have A3 := Aside0.mk A30
  clear A30
  obtain ⟨ji4, hji4⟩ : ∃ j_ : Int, (mn (l1.length : Int) 80) = j_ := ⟨_, rfl⟩
  replace H : (if 0 ≤ (ji4) then (if (ji4) ≤ (l1.length : Int) then ((some (l1.take ((ji4) : Int).toNat : List (S39))).bind fun y178 => ((check_File.f k a0_0 a0_1 a0_2 a0_3 a0_4 a0_5 a0_6 a0_7 a0_8 a0_9 y178 (([(⟨(-5), 0, 0, 0, 0⟩ : S30)] : List (S30)))).bind fun bt185 => ((millwrightref04_File.f k a0_0 a0_1 a0_2 a0_3 a0_4 a0_5 a0_6 a0_7 a0_8 a0_9 y178).bind fun bt187 => ((millwrightref04_Config.f a0_0 a0_1 a0_2 a0_3 a0_4 a0_5 a0_6 a0_7 a0_8 a0_9).bind fun t189 => (if bt185.1 = bt187.1 then (if bt185.2 = bt187.2 then ((check_Config.f k a0_0 a0_1 a0_2 a0_3 a0_4 a0_5 a0_6 a0_7 a0_8 a0_9).bind fun t190 => (if t190 = 0 then (if t189 = true then ((check_Config.f k a0_0 a0_1 a0_2 a0_3 a0_4 a0_5 a0_6 a0_7 a0_8 a0_9).bind fun t191 => (if t191 = 3 then (millwrightlaw04_CheckTells.j0 k y178 t177 true) else (millwrightlaw04_CheckTells.j0 k y178 t177 false))) else (millwrightlaw04_CheckTells.j0 k y178 t177 true)) else (if t189 = true then (millwrightlaw04_CheckTells.j0 k y178 t177 true) else ((check_Config.f k a0_0 a0_1 a0_2 a0_3 a0_4 a0_5 a0_6 a0_7 a0_8 a0_9).bind fun t192 => (if t192 = 3 then (millwrightlaw04_CheckTells.j0 k y178 t177 false) else (millwrightlaw04_CheckTells.j0 k y178 t177 true)))))) else (millwrightlaw04_CheckTells.j0 k y178 t177 true)) else (millwrightlaw04_CheckTells.j0 k y178 t177 true)))))) else (none)) else (none)) = some true := by first | (rw [hji4] at H; exact H) | (simp only [hji4] at H ⊢; exact H)
  (try rw [hji4] at A3)
  (try (have hji4h : ji4 ≤ 80 := by (rw [← hji4]; unfold mn; (repeat' split) <;> omega)))
  (try (have hji4g : ji4 ≤ 64 := by omega))
  (try (have hji4l : 0 ≤ ji4 := by (rw [← hji4]; unfold mn; (repeat' split) <;> omega)))
  (try (have hji4m : 0 ≤ ji4 := by omega))
  have hji4_ : (if 80 < (l1.length : Int) then 80 else (l1.length : Int)) = ji4 := hji4
  by_cases c5 : 0 ≤ (ji4)
  · rw [if_pos c5] at H
    have c5b0 := eq_true c5
    have c5b1 : decide (0 ≤ (ji4)) = true := decide_eq_true c5
    clear c5
    by_cases c6 : (ji4) ≤ (l1.length : Int)
    · rw [if_pos c6] at H
      have c6b0 := eq_true c6
      have c6b1 : decide ((ji4) ≤ (l1.length : Int)) = true := decide_eq_true c6
      clear c6
      obtain ⟨y178, hy178⟩ : ∃ y_ : List (S39), y_ = (l1.take ((ji4) : Int).toNat) := ⟨_, rfl⟩
      replace H : ((check_File.f k a0_0 a0_1 a0_2 a0_3 a0_4 a0_5 a0_6 a0_7 a0_8 a0_9 y178 (([(⟨(-5), 0, 0, 0, 0⟩ : S30)] : List (S30)))).bind fun bt185 => ((millwrightref04_File.f k a0_0 a0_1 a0_2 a0_3 a0_4 a0_5 a0_6 a0_7 a0_8 a0_9 y178).bind fun bt187 => ((millwrightref04_Config.f a0_0 a0_1 a0_2 a0_3 a0_4 a0_5 a0_6 a0_7 a0_8 a0_9).bind fun t189 => (if bt185.1 = bt187.1 then (if bt185.2 = bt187.2 then ((check_Config.f k a0_0 a0_1 a0_2 a0_3 a0_4 a0_5 a0_6 a0_7 a0_8 a0_9).bind fun t190 => (if t190 = 0 then (if t189 = true then ((check_Config.f k a0_0 a0_1 a0_2 a0_3 a0_4 a0_5 a0_6 a0_7 a0_8 a0_9).bind fun t191 => (if t191 = 3 then (millwrightlaw04_CheckTells.j0 k y178 t177 true) else (millwrightlaw04_CheckTells.j0 k y178 t177 false))) else (millwrightlaw04_CheckTells.j0 k y178 t177 true)) else (if t189 = true then (millwrightlaw04_CheckTells.j0 k y178 t177 true) else ((check_Config.f k a0_0 a0_1 a0_2 a0_3 a0_4 a0_5 a0_6 a0_7 a0_8 a0_9).bind fun t192 => (if t192 = 3 then (millwrightlaw04_CheckTells.j0 k y178 t177 false) else (millwrightlaw04_CheckTells.j0 k y178 t177 true)))))) else (millwrightlaw04_CheckTells.j0 k y178 t177 true)) else (millwrightlaw04_CheckTells.j0 k y178 t177 true))))) = some true := by first | (rw [hy178]; with_reducible exact H) | (have H2_ := (Option.bind_some _ _).symm.trans H; rw [hy178]; with_reducible exact H2_) | (have H2_ := (Option.bind_some _ _).symm.trans H; with_reducible exact H2_) | with_reducible exact H | (rw [hy178]; exact H) | exact H
      have Ny178 := Aside0.mk hy178
      clear hy178
      obtain ⟨y182, hy182⟩ : ∃ y_ : List (S30), y_ = (([(⟨(-5), 0, 0, 0, 0⟩ : S30)] : List (S30))) := ⟨_, rfl⟩
      replace H : ((check_File.f k a0_0 a0_1 a0_2 a0_3 a0_4 a0_5 a0_6 a0_7 a0_8 a0_9 y178 y182).bind fun bt185 => ((millwrightref04_File.f k a0_0 a0_1 a0_2 a0_3 a0_4 a0_5 a0_6 a0_7 a0_8 a0_9 y178).bind fun bt187 => ((millwrightref04_Config.f a0_0 a0_1 a0_2 a0_3 a0_4 a0_5 a0_6 a0_7 a0_8 a0_9).bind fun t189 => (if bt185.1 = bt187.1 then (if bt185.2 = bt187.2 then ((check_Config.f k a0_0 a0_1 a0_2 a0_3 a0_4 a0_5 a0_6 a0_7 a0_8 a0_9).bind fun t190 => (if t190 = 0 then (if t189 = true then ((check_Config.f k a0_0 a0_1 a0_2 a0_3 a0_4 a0_5 a0_6 a0_7 a0_8 a0_9).bind fun t191 => (if t191 = 3 then (millwrightlaw04_CheckTells.j0 k y178 t177 true) else (millwrightlaw04_CheckTells.j0 k y178 t177 false))) else (millwrightlaw04_CheckTells.j0 k y178 t177 true)) else (if t189 = true then (millwrightlaw04_CheckTells.j0 k y178 t177 true) else ((check_Config.f k a0_0 a0_1 a0_2 a0_3 a0_4 a0_5 a0_6 a0_7 a0_8 a0_9).bind fun t192 => (if t192 = 3 then (millwrightlaw04_CheckTells.j0 k y178 t177 false) else (millwrightlaw04_CheckTells.j0 k y178 t177 true)))))) else (millwrightlaw04_CheckTells.j0 k y178 t177 true)) else (millwrightlaw04_CheckTells.j0 k y178 t177 true))))) = some true := by first | (rw [hy182]; with_reducible exact H) | (have H2_ := (Option.bind_some _ _).symm.trans H; rw [hy182]; with_reducible exact H2_) | (have H2_ := (Option.bind_some _ _).symm.trans H; with_reducible exact H2_) | with_reducible exact H | (rw [hy182]; exact H) | exact H
      have Ny182 := Aside0.mk hy182
      clear hy182
      replace H := Option.bind_eq_some_iff.mp H
      obtain ⟨⟨t185, t186⟩, A70, H⟩ := H
      replace H : ((millwrightref04_File.f k a0_0 a0_1 a0_2 a0_3 a0_4 a0_5 a0_6 a0_7 a0_8 a0_9 y178).bind fun bt187 => ((millwrightref04_Config.f a0_0 a0_1 a0_2 a0_3 a0_4 a0_5 a0_6 a0_7 a0_8 a0_9).bind fun t189 => (if t185 = bt187.1 then (if t186 = bt187.2 then ((check_Config.f k a0_0 a0_1 a0_2 a0_3 a0_4 a0_5 a0_6 a0_7 a0_8 a0_9).bind fun t190 => (if t190 = 0 then (if t189 = true then ((check_Config.f k a0_0 a0_1 a0_2 a0_3 a0_4 a0_5 a0_6 a0_7 a0_8 a0_9).bind fun t191 => (if t191 = 3 then (millwrightlaw04_CheckTells.j0 k y178 t177 true) else (millwrightlaw04_CheckTells.j0 k y178 t177 false))) else (millwrightlaw04_CheckTells.j0 k y178 t177 true)) else (if t189 = true then (millwrightlaw04_CheckTells.j0 k y178 t177 true) else ((check_Config.f k a0_0 a0_1 a0_2 a0_3 a0_4 a0_5 a0_6 a0_7 a0_8 a0_9).bind fun t192 => (if t192 = 3 then (millwrightlaw04_CheckTells.j0 k y178 t177 false) else (millwrightlaw04_CheckTells.j0 k y178 t177 true)))))) else (millwrightlaw04_CheckTells.j0 k y178 t177 true)) else (millwrightlaw04_CheckTells.j0 k y178 t177 true)))) = some true := H
      have A7 := Aside0.mk A70
      clear A70
      replace H := Option.bind_eq_some_iff.mp H
      obtain ⟨⟨t187, t188⟩, A80, H⟩ := H
      replace H : ((millwrightref04_Config.f a0_0 a0_1 a0_2 a0_3 a0_4 a0_5 a0_6 a0_7 a0_8 a0_9).bind fun t189 => (if t185 = t187 then (if t186 = t188 then ((check_Config.f k a0_0 a0_1 a0_2 a0_3 a0_4 a0_5 a0_6 a0_7 a0_8 a0_9).bind fun t190 => (if t190 = 0 then (if t189 = true then ((check_Config.f k a0_0 a0_1 a0_2 a0_3 a0_4 a0_5 a0_6 a0_7 a0_8 a0_9).bind fun t191 => (if t191 = 3 then (millwrightlaw04_CheckTells.j0 k y178 t177 true) else (millwrightlaw04_CheckTells.j0 k y178 t177 false))) else (millwrightlaw04_CheckTells.j0 k y178 t177 true)) else (if t189 = true then (millwrightlaw04_CheckTells.j0 k y178 t177 true) else ((check_Config.f k a0_0 a0_1 a0_2 a0_3 a0_4 a0_5 a0_6 a0_7 a0_8 a0_9).bind fun t192 => (if t192 = 3 then (millwrightlaw04_CheckTells.j0 k y178 t177 false) else (millwrightlaw04_CheckTells.j0 k y178 t177 true)))))) else (millwrightlaw04_CheckTells.j0 k y178 t177 true)) else (millwrightlaw04_CheckTells.j0 k y178 t177 true))) = some true := H
      have A8 := Aside0.mk A80
      clear A80
      replace H := Option.bind_eq_some_iff.mp H
      obtain ⟨t189, A90, H⟩ := H
      replace H : (if t185 = t187 then (if t186 = t188 then ((check_Config.f k a0_0 a0_1 a0_2 a0_3 a0_4 a0_5 a0_6 a0_7 a0_8 a0_9).bind fun t190 => (if t190 = 0 then (if t189 = true then ((check_Config.f k a0_0 a0_1 a0_2 a0_3 a0_4 a0_5 a0_6 a0_7 a0_8 a0_9).bind fun t191 => (if t191 = 3 then (millwrightlaw04_CheckTells.j0 k y178 t177 true) else (millwrightlaw04_CheckTells.j0 k y178 t177 false))) else (millwrightlaw04_CheckTells.j0 k y178 t177 true)) else (if t189 = true then (millwrightlaw04_CheckTells.j0 k y178 t177 true) else ((check_Config.f k a0_0 a0_1 a0_2 a0_3 a0_4 a0_5 a0_6 a0_7 a0_8 a0_9).bind fun t192 => (if t192 = 3 then (millwrightlaw04_CheckTells.j0 k y178 t177 false) else (millwrightlaw04_CheckTells.j0 k y178 t177 true)))))) else (millwrightlaw04_CheckTells.j0 k y178 t177 true)) else (millwrightlaw04_CheckTells.j0 k y178 t177 true)) = some true := H
      have A9 := Aside0.mk A90
      clear A90
      have HC10 := Aside0.mk H
      clear H
      go_enter Try.func3, Try.ntmps3
      go_upto_region 6 with (first | ((with_reducible refine gate_dst (N := 2) rfl ?_); refine box_event ?hg (N := 2) ?hd (cs := #[.int .i64 a0_0, .int .i64 a0_1, .int .i64 a0_2, .int .i64 a0_3, .int .i64 a0_4, .int .i64 a0_5, .int .i64 a0_6, .int .i64 a0_7, .int .i64 a0_8, .int .i64 a0_9]) (t := 23) ?hr ?_; (case hd => rfl); (case hg => rfl); (case hr => first | (go_simp; done) | (go_simp; rfl)); intro gb176 hg w11 hbox hb; have n0_ := Aside0.mk (below_step (by repeat (first | (with_reducible first | exact HB.out | apply below_alloc | apply pw_below_drewN | apply below_drew1) | exact HB.out)) hb); have n1_ := Aside0.mk (hbox); have n2_ := Aside0.mk ((by rw [hg]; exact (below_size (by repeat (first | (with_reducible first | exact HB.out | apply below_alloc | apply pw_below_drewN | apply below_drew1) | exact HB.out))) : w.heap.size ≤ gb176)); have n3_ := Aside0.mk ((by rw [hg]; exact (below_size (by repeat (first | (with_reducible first | exact HB.out | apply below_alloc | apply pw_below_drewN | apply below_drew1) | exact HB.out))) : w.heap.size ≤ gb176)); clear HB; have HB := n0_; have BK176 := n1_; have GW176 := n2_; have GE176 := n3_; clear n0_ n1_ n2_ n3_; clear hb hbox hg) | ((with_reducible refine gate_callee (f := 13) rfl ?_); refine goesL_ (some 13) rfl rfl Try.func13 (by kernel_rfl) rfl #[] rfl (by (try simp only [List.map_toArray, List.map_cons, List.map_nil]); first | done | rfl | (simp only [List.length_drop, List.length_take]; rfl)) ?_; (with_reducible refine (millwrightlaw04_shown.calls k  t177 _ A3.out).mono ?_); rintro e w12 ⟨rfl, hb⟩; refine ⟨_, rfl, ?_⟩; have n0_ := Aside0.mk (blk_below (g := gb176) (o := .cells #[.int .i64 a0_0, .int .i64 a0_1, .int .i64 a0_2, .int .i64 a0_3, .int .i64 a0_4, .int .i64 a0_5, .int .i64 a0_6, .int .i64 a0_7, .int .i64 a0_8, .int .i64 a0_9] 23 (0, 0)) (by (with_reducible repeat (first | refine blk_drewN ?_ _ | refine blk_drew ?_ | refine blk_alloc ?_ _)); exact BK176.out) hb); have n1_ := Aside0.mk (below_step (by repeat (first | (with_reducible first | exact HB.out | apply below_alloc | apply pw_below_drewN | apply below_drew1 | refine below_set ?_ GE176.out) | exact HB.out)) hb); clear BK176; clear HB; have BK176 := n0_; have HB := n1_; clear n0_ n1_; (try clear hb); (try clear hb2); (try clear hk); (try clear hi); have q13 : ((ji4) : Int) ≤ ((l1.length : Int) : Int) := of_decide_eq_true (by first | (with_reducible assumption) | assumption); obtain ⟨i013, hi013, _, hsz13, _⟩ := info_parts info39; have hroom13 : l1.length ≤ c1 := HC1.out; have hC13 : Kd.C k39 _ A1 l1.length l1 := HR1.out; have hcut13 := cut_to (P := Try.prog) 24 39 .i64 Try.underlying24 hi013 A1 l1.length c1 (ji4) (of_decide_eq_true (by first | (with_reducible assumption) | assumption)) q13 hroom13; have hr13 := Kd.C_take (m := ((ji4) : Int).toNat) hC13 (by omega); have hy13 : y178.length = ((ji4) : Int).toNat := (by rw [Ny178.out, List.length_take]; omega); rw [← Ny178.out] at hr13; rw [← hy13] at hcut13; have HR181 := Aside0.mk hr13; have HC181 := Aside0.mk (show y178.length ≤ c1 from by omega); clear hr13 hC13 hroom13 hi013 hsz13; have KY13 := Aside0.mk hy13; clear hy13; replace q13 := eq_true q13; have hcz14_0 : w12.cell? ⟨gb176, 0, none⟩ = some (.int .i64 a0_0) := (blk_cell BK176.out 0).trans rfl; have hcz14_1 : w12.cell? ⟨gb176, 1, none⟩ = some (.int .i64 a0_1) := (blk_cell BK176.out 1).trans rfl; have hcz14_2 : w12.cell? ⟨gb176, 2, none⟩ = some (.int .i64 a0_2) := (blk_cell BK176.out 2).trans rfl; have hcz14_3 : w12.cell? ⟨gb176, 3, none⟩ = some (.int .i64 a0_3) := (blk_cell BK176.out 3).trans rfl; have hcz14_4 : w12.cell? ⟨gb176, 4, none⟩ = some (.int .i64 a0_4) := (blk_cell BK176.out 4).trans rfl; have hcz14_5 : w12.cell? ⟨gb176, 5, none⟩ = some (.int .i64 a0_5) := (blk_cell BK176.out 5).trans rfl; have hcz14_6 : w12.cell? ⟨gb176, 6, none⟩ = some (.int .i64 a0_6) := (blk_cell BK176.out 6).trans rfl; have hcz14_7 : w12.cell? ⟨gb176, 7, none⟩ = some (.int .i64 a0_7) := (blk_cell BK176.out 7).trans rfl; have hcz14_8 : w12.cell? ⟨gb176, 8, none⟩ = some (.int .i64 a0_8) := (blk_cell BK176.out 8).trans rfl; have hcz14_9 : w12.cell? ⟨gb176, 9, none⟩ = some (.int .i64 a0_9) := (blk_cell BK176.out 9).trans rfl; have hfz14_0 := blk_frozen BK176.out 0; have hfz14_1 := blk_frozen BK176.out 1; have hfz14_2 := blk_frozen BK176.out 2; have hfz14_3 := blk_frozen BK176.out 3; have hfz14_4 := blk_frozen BK176.out 4; have hfz14_5 := blk_frozen BK176.out 5; have hfz14_6 := blk_frozen BK176.out 6; have hfz14_7 := blk_frozen BK176.out 7; have hfz14_8 := blk_frozen BK176.out 8; have hfz14_9 := blk_frozen BK176.out 9) | ((with_reducible refine gate_dst (N := 23) rfl ?_); refine Kd.R_lit k30 _ 30 ?hg (N := 23) ?hd (xs := ([(⟨(-5), 0, 0, 0, 0⟩ : S30)] : List (S30))) (inner := [.int .i64 (-5), .int .i64 0, .int .i64 0, .int .i64 0, .int .i64 0]) (ok := fun _ => True) (okp := fun _ => True) ?hr ?hp (fun _ hk => hk) trivial (Below.refl _ _) (Nat.le_refl _) (by simp) ?_; (case hd => rfl); (case hg => rfl); (case hr => first | (go_simp; done) | (go_simp; rfl)); (case hp => exact (Reps.c5 (show Kd.M k30 _ _ _ (⟨(-5), 0, 0, 0, 0⟩ : S30) [.int .i64 (-5), .int .i64 0, .int .i64 0, .int .i64 0, .int .i64 0] from (k30_mkM _ _ _ (⟨(-5), 0, 0, 0, 0⟩ : S30) )) (Reps.none _ _))); intro v183 w15 ho16 hb hg_ hnew_; clear hg_ hnew_; (first | rw [← Ny182.out] at ho16 | (simp only [Int.reduceToNat] at ho16; rw [← Ny182.out] at ho16)); have n0_ := Aside0.mk (Kd.R_lower ho16 (below_size (by repeat (first | (with_reducible first | exact HB.out | apply below_alloc | apply pw_below_drewN | apply below_drew1 | refine below_set ?_ GE176.out) | exact HB.out)))); have n1_ := Aside0.mk (blk_below (g := gb176) (o := .cells #[.int .i64 a0_0, .int .i64 a0_1, .int .i64 a0_2, .int .i64 a0_3, .int .i64 a0_4, .int .i64 a0_5, .int .i64 a0_6, .int .i64 a0_7, .int .i64 a0_8, .int .i64 a0_9] 23 (0, 0)) (by (with_reducible repeat (first | refine blk_drewN ?_ _ | refine blk_drew ?_ | refine blk_alloc ?_ _)); exact BK176.out) hb); have n2_ := Aside0.mk (below_step (by repeat (first | (with_reducible first | exact HB.out | apply below_alloc | apply pw_below_drewN | apply below_drew1 | refine below_set ?_ GE176.out) | exact HB.out)) hb); clear BK176; clear HB; have HO184 := n0_; have BK176 := n1_; have HB := n2_; clear n0_ n1_ n2_; clear hb ho16; obtain ⟨Ao17, co17, eo17⟩ := Kd.R_slice HO184.out; subst eo17) | ((with_reducible refine gate_callee (f := 14) rfl ?_); refine goesL_ (some 25) rfl rfl Try.func14 (by kernel_rfl) rfl #[.agg #[.int .i64 a0_0, .int .i64 a0_1, .int .i64 a0_2, .int .i64 a0_3, .int .i64 a0_4, .int .i64 a0_5, .int .i64 a0_6, .int .i64 a0_7, .int .i64 a0_8, .int .i64 a0_9, .slice A1 y178.length c1, .slice Ao17 y182.length co17]] rfl (by (try simp only [List.map_toArray, List.map_cons, List.map_nil]); first | done | rfl | (simp only [List.length_drop, List.length_take]; rfl)) ?_; (with_reducible refine (check_File.calls k a0_0 a0_1 a0_2 a0_3 a0_4 a0_5 a0_6 a0_7 a0_8 a0_9 _ _ y178 _ _ y182 t185 t186 _ ?side1 ?side2 ?side3 ?side4 A7.out).mono ?_); (case side1 => repeat (first | exact (Kd.C_below HR181.out HB.out) | (with_reducible refine Kd.C_alloc ?_ _) | (with_reducible refine Kd.C_drewN ?_ _) | (with_reducible refine Kd.C_drew ?_))); (case side2 => exact HC181.out); (case side3 => repeat (first | exact (Kd.R_reads' HO184.out).2.2 | (with_reducible refine Kd.C_alloc ?_ _) | (with_reducible refine Kd.C_drewN ?_ _) | (with_reducible refine Kd.C_drew ?_))); (case side4 => exact (Kd.R_reads' HO184.out).2.1); rintro e w18 ⟨rfl, hb⟩; refine ⟨_, rfl, ?_⟩; have n0_ := Aside0.mk (Kd.R_below (by (with_reducible repeat (first | apply Kd.R_alloc | apply Kd.R_drewN | apply Kd.R_drew)); exact HO184.out) hb); have n1_ := Aside0.mk (blk_below (g := gb176) (o := .cells #[.int .i64 a0_0, .int .i64 a0_1, .int .i64 a0_2, .int .i64 a0_3, .int .i64 a0_4, .int .i64 a0_5, .int .i64 a0_6, .int .i64 a0_7, .int .i64 a0_8, .int .i64 a0_9] 23 (0, 0)) (by (with_reducible repeat (first | refine blk_drewN ?_ _ | refine blk_drew ?_ | refine blk_alloc ?_ _)); exact BK176.out) hb); have n2_ := Aside0.mk (below_step (by repeat (first | (with_reducible first | exact HB.out | apply below_alloc | apply pw_below_drewN | apply below_drew1 | refine below_set ?_ GE176.out) | exact HB.out)) hb); clear HO184; clear BK176; clear HB; have HO184 := n0_; have BK176 := n1_; have HB := n2_; clear n0_ n1_ n2_; (try clear hb); (try clear hb2); (try clear hk); (try clear hi); have hcz19_0 : w18.cell? ⟨gb176, 0, none⟩ = some (.int .i64 a0_0) := (blk_cell BK176.out 0).trans rfl; have hcz19_1 : w18.cell? ⟨gb176, 1, none⟩ = some (.int .i64 a0_1) := (blk_cell BK176.out 1).trans rfl; have hcz19_2 : w18.cell? ⟨gb176, 2, none⟩ = some (.int .i64 a0_2) := (blk_cell BK176.out 2).trans rfl; have hcz19_3 : w18.cell? ⟨gb176, 3, none⟩ = some (.int .i64 a0_3) := (blk_cell BK176.out 3).trans rfl; have hcz19_4 : w18.cell? ⟨gb176, 4, none⟩ = some (.int .i64 a0_4) := (blk_cell BK176.out 4).trans rfl; have hcz19_5 : w18.cell? ⟨gb176, 5, none⟩ = some (.int .i64 a0_5) := (blk_cell BK176.out 5).trans rfl; have hcz19_6 : w18.cell? ⟨gb176, 6, none⟩ = some (.int .i64 a0_6) := (blk_cell BK176.out 6).trans rfl; have hcz19_7 : w18.cell? ⟨gb176, 7, none⟩ = some (.int .i64 a0_7) := (blk_cell BK176.out 7).trans rfl; have hcz19_8 : w18.cell? ⟨gb176, 8, none⟩ = some (.int .i64 a0_8) := (blk_cell BK176.out 8).trans rfl; have hcz19_9 : w18.cell? ⟨gb176, 9, none⟩ = some (.int .i64 a0_9) := (blk_cell BK176.out 9).trans rfl; have hfz19_0 := blk_frozen BK176.out 0; have hfz19_1 := blk_frozen BK176.out 1; have hfz19_2 := blk_frozen BK176.out 2; have hfz19_3 := blk_frozen BK176.out 3; have hfz19_4 := blk_frozen BK176.out 4; have hfz19_5 := blk_frozen BK176.out 5; have hfz19_6 := blk_frozen BK176.out 6; have hfz19_7 := blk_frozen BK176.out 7; have hfz19_8 := blk_frozen BK176.out 8; have hfz19_9 := blk_frozen BK176.out 9) | ((with_reducible refine gate_callee (f := 15) rfl ?_); refine goesL_ (some 31) rfl rfl Try.func15 (by kernel_rfl) rfl #[.agg #[.int .i64 a0_0, .int .i64 a0_1, .int .i64 a0_2, .int .i64 a0_3, .int .i64 a0_4, .int .i64 a0_5, .int .i64 a0_6, .int .i64 a0_7, .int .i64 a0_8, .int .i64 a0_9], .slice A1 y178.length c1] rfl (by (try simp only [List.map_toArray, List.map_cons, List.map_nil]); first | done | rfl | (simp only [List.length_drop, List.length_take]; rfl)) ?_; (with_reducible refine (millwrightref04_File.calls k a0_0 a0_1 a0_2 a0_3 a0_4 a0_5 a0_6 a0_7 a0_8 a0_9 _ _ y178 t187 t188 _ ?side1 ?side2 A8.out).mono ?_); (case side1 => repeat (first | exact (Kd.C_below HR181.out HB.out) | (with_reducible refine Kd.C_alloc ?_ _) | (with_reducible refine Kd.C_drewN ?_ _) | (with_reducible refine Kd.C_drew ?_))); (case side2 => exact HC181.out); rintro e w20 ⟨rfl, hb⟩; refine ⟨_, rfl, ?_⟩; have n0_ := Aside0.mk (Kd.R_below (by (with_reducible repeat (first | apply Kd.R_alloc | apply Kd.R_drewN | apply Kd.R_drew)); exact HO184.out) hb); have n1_ := Aside0.mk (blk_below (g := gb176) (o := .cells #[.int .i64 a0_0, .int .i64 a0_1, .int .i64 a0_2, .int .i64 a0_3, .int .i64 a0_4, .int .i64 a0_5, .int .i64 a0_6, .int .i64 a0_7, .int .i64 a0_8, .int .i64 a0_9] 23 (0, 0)) (by (with_reducible repeat (first | refine blk_drewN ?_ _ | refine blk_drew ?_ | refine blk_alloc ?_ _)); exact BK176.out) hb); have n2_ := Aside0.mk (below_step (by repeat (first | (with_reducible first | exact HB.out | apply below_alloc | apply pw_below_drewN | apply below_drew1 | refine below_set ?_ GE176.out) | exact HB.out)) hb); clear HO184; clear BK176; clear HB; have HO184 := n0_; have BK176 := n1_; have HB := n2_; clear n0_ n1_ n2_; (try clear hb); (try clear hb2); (try clear hk); (try clear hi); have hcz21_0 : w20.cell? ⟨gb176, 0, none⟩ = some (.int .i64 a0_0) := (blk_cell BK176.out 0).trans rfl; have hcz21_1 : w20.cell? ⟨gb176, 1, none⟩ = some (.int .i64 a0_1) := (blk_cell BK176.out 1).trans rfl; have hcz21_2 : w20.cell? ⟨gb176, 2, none⟩ = some (.int .i64 a0_2) := (blk_cell BK176.out 2).trans rfl; have hcz21_3 : w20.cell? ⟨gb176, 3, none⟩ = some (.int .i64 a0_3) := (blk_cell BK176.out 3).trans rfl; have hcz21_4 : w20.cell? ⟨gb176, 4, none⟩ = some (.int .i64 a0_4) := (blk_cell BK176.out 4).trans rfl; have hcz21_5 : w20.cell? ⟨gb176, 5, none⟩ = some (.int .i64 a0_5) := (blk_cell BK176.out 5).trans rfl; have hcz21_6 : w20.cell? ⟨gb176, 6, none⟩ = some (.int .i64 a0_6) := (blk_cell BK176.out 6).trans rfl; have hcz21_7 : w20.cell? ⟨gb176, 7, none⟩ = some (.int .i64 a0_7) := (blk_cell BK176.out 7).trans rfl; have hcz21_8 : w20.cell? ⟨gb176, 8, none⟩ = some (.int .i64 a0_8) := (blk_cell BK176.out 8).trans rfl; have hcz21_9 : w20.cell? ⟨gb176, 9, none⟩ = some (.int .i64 a0_9) := (blk_cell BK176.out 9).trans rfl; have hfz21_0 := blk_frozen BK176.out 0; have hfz21_1 := blk_frozen BK176.out 1; have hfz21_2 := blk_frozen BK176.out 2; have hfz21_3 := blk_frozen BK176.out 3; have hfz21_4 := blk_frozen BK176.out 4; have hfz21_5 := blk_frozen BK176.out 5; have hfz21_6 := blk_frozen BK176.out 6; have hfz21_7 := blk_frozen BK176.out 7; have hfz21_8 := blk_frozen BK176.out 8; have hfz21_9 := blk_frozen BK176.out 9) | ((with_reducible refine gate_callee (f := 16) rfl ?_); refine goesL_ (some 35) rfl rfl Try.func16 (by kernel_rfl) rfl #[.agg #[.int .i64 a0_0, .int .i64 a0_1, .int .i64 a0_2, .int .i64 a0_3, .int .i64 a0_4, .int .i64 a0_5, .int .i64 a0_6, .int .i64 a0_7, .int .i64 a0_8, .int .i64 a0_9]] rfl (by (try simp only [List.map_toArray, List.map_cons, List.map_nil]); first | done | rfl | (simp only [List.length_drop, List.length_take]; rfl)) ?_; (with_reducible refine (millwrightref04_Config.calls a0_0 a0_1 a0_2 a0_3 a0_4 a0_5 a0_6 a0_7 a0_8 a0_9 t189 _ A9.out).mono ?_); rintro e w22 ⟨rfl, hb⟩; refine ⟨_, rfl, ?_⟩; have n0_ := Aside0.mk (Kd.R_below (by (with_reducible repeat (first | apply Kd.R_alloc | apply Kd.R_drewN | apply Kd.R_drew)); exact HO184.out) hb); have n1_ := Aside0.mk (blk_below (g := gb176) (o := .cells #[.int .i64 a0_0, .int .i64 a0_1, .int .i64 a0_2, .int .i64 a0_3, .int .i64 a0_4, .int .i64 a0_5, .int .i64 a0_6, .int .i64 a0_7, .int .i64 a0_8, .int .i64 a0_9] 23 (0, 0)) (by (with_reducible repeat (first | refine blk_drewN ?_ _ | refine blk_drew ?_ | refine blk_alloc ?_ _)); exact BK176.out) hb); have n2_ := Aside0.mk (below_step (by repeat (first | (with_reducible first | exact HB.out | apply below_alloc | apply pw_below_drewN | apply below_drew1 | refine below_set ?_ GE176.out) | exact HB.out)) hb); clear HO184; clear BK176; clear HB; have HO184 := n0_; have BK176 := n1_; have HB := n2_; clear n0_ n1_ n2_; (try clear hb); (try clear hb2); (try clear hk); (try clear hi)))
      (try simp only [Act.put, List.setIfInBounds_toArray, List.set_cons_zero, List.set_cons_succ])
      go_cut [57] (fun v57 wc => ∃ (kq : Nat) (x57_9 : Bool), v57 = .bool x57_9 ∧ Aside0 (millwrightlaw04_CheckTells.j0 kq y178 t177 x57_9 = some true) ∧ Aside0 (kq ≤ k) ∧ Aside0 (wc.heap[gb176]? = some (.cells #[.int .i64 a0_0, .int .i64 a0_1, .int .i64 a0_2, .int .i64 a0_3, .int .i64 a0_4, .int .i64 a0_5, .int .i64 a0_6, .int .i64 a0_7, .int .i64 a0_8, .int .i64 a0_9] 23 (0, 0))) ∧ Aside0 (Below w.heap.size w wc))
      case first =>
        have H := HC10.out
        clear HC10
        by_cases c23 : t185 = t187
        · rw [if_pos c23] at H
          have c23b0 : (t185 == t187) = true := beq_iff_eq.mpr c23
          have c23b1 : (t185 != t187) = false := bne_eq_false_iff_eq.mpr c23
          clear c23
          (first | rw [c23b0] | (simp only [i64_w, i32_w]; rw [c23b0]) | skip)
          by_cases c24 : t186 = t188
          · rw [if_pos c24] at H
            have c24b0 : (t186 == t188) = true := beq_iff_eq.mpr c24
            have c24b1 : (t186 != t188) = false := bne_eq_false_iff_eq.mpr c24
            clear c24
            replace H := Option.bind_eq_some_iff.mp H
            obtain ⟨t190, A250, H⟩ := H
            replace H : (if t190 = 0 then (if t189 = true then ((check_Config.f k a0_0 a0_1 a0_2 a0_3 a0_4 a0_5 a0_6 a0_7 a0_8 a0_9).bind fun t191 => (if t191 = 3 then (millwrightlaw04_CheckTells.j0 k y178 t177 true) else (millwrightlaw04_CheckTells.j0 k y178 t177 false))) else (millwrightlaw04_CheckTells.j0 k y178 t177 true)) else (if t189 = true then (millwrightlaw04_CheckTells.j0 k y178 t177 true) else ((check_Config.f k a0_0 a0_1 a0_2 a0_3 a0_4 a0_5 a0_6 a0_7 a0_8 a0_9).bind fun t192 => (if t192 = 3 then (millwrightlaw04_CheckTells.j0 k y178 t177 false) else (millwrightlaw04_CheckTells.j0 k y178 t177 true))))) = some true := H
            have A25 := Aside0.mk A250
            clear A250
            by_cases c26 : t190 = 0
            · rw [if_pos c26] at H
              have c26b0 : (t190 == 0) = true := beq_iff_eq.mpr c26
              have c26b1 : (t190 != 0) = false := bne_eq_false_iff_eq.mpr c26
              clear c26
              by_cases c27 : t189 = true
              · subst c27
                have H1 : ((check_Config.f k a0_0 a0_1 a0_2 a0_3 a0_4 a0_5 a0_6 a0_7 a0_8 a0_9).bind fun t191 => (if t191 = 3 then (millwrightlaw04_CheckTells.j0 k y178 t177 true) else (millwrightlaw04_CheckTells.j0 k y178 t177 false))) = some true := by rw [if_pos rfl] at H; exact H
                clear H
                have H := H1
                clear H1
                replace H := Option.bind_eq_some_iff.mp H
                obtain ⟨t191, A280, H⟩ := H
                replace H : (if t191 = 3 then (millwrightlaw04_CheckTells.j0 k y178 t177 true) else (millwrightlaw04_CheckTells.j0 k y178 t177 false)) = some true := H
                have A28 := Aside0.mk A280
                clear A280
                have hsame_ := Option.some.inj (A25.out.symm.trans A28.out)
                subst hsame_
                by_cases c29 : t190 = 3
                · rw [if_pos c29] at H
                  have c29b0 : (t190 == 3) = true := beq_iff_eq.mpr c29
                  have c29b1 : (t190 != 3) = false := bne_eq_false_iff_eq.mpr c29
                  clear c29
                  have H' := Aside0.mk H
                  clear H
                  have hcz30_0 : w22.cell? ⟨gb176, 0, none⟩ = some (.int .i64 a0_0) := (blk_cell BK176.out 0).trans rfl
                  have hcz30_1 : w22.cell? ⟨gb176, 1, none⟩ = some (.int .i64 a0_1) := (blk_cell BK176.out 1).trans rfl
                  have hcz30_2 : w22.cell? ⟨gb176, 2, none⟩ = some (.int .i64 a0_2) := (blk_cell BK176.out 2).trans rfl
                  have hcz30_3 : w22.cell? ⟨gb176, 3, none⟩ = some (.int .i64 a0_3) := (blk_cell BK176.out 3).trans rfl
                  have hcz30_4 : w22.cell? ⟨gb176, 4, none⟩ = some (.int .i64 a0_4) := (blk_cell BK176.out 4).trans rfl
                  have hcz30_5 : w22.cell? ⟨gb176, 5, none⟩ = some (.int .i64 a0_5) := (blk_cell BK176.out 5).trans rfl
                  have hcz30_6 : w22.cell? ⟨gb176, 6, none⟩ = some (.int .i64 a0_6) := (blk_cell BK176.out 6).trans rfl
                  have hcz30_7 : w22.cell? ⟨gb176, 7, none⟩ = some (.int .i64 a0_7) := (blk_cell BK176.out 7).trans rfl
                  have hcz30_8 : w22.cell? ⟨gb176, 8, none⟩ = some (.int .i64 a0_8) := (blk_cell BK176.out 8).trans rfl
                  have hcz30_9 : w22.cell? ⟨gb176, 9, none⟩ = some (.int .i64 a0_9) := (blk_cell BK176.out 9).trans rfl
                  have hfz30_0 := blk_frozen BK176.out 0
                  have hfz30_1 := blk_frozen BK176.out 1
                  have hfz30_2 := blk_frozen BK176.out 2
                  have hfz30_3 := blk_frozen BK176.out 3
                  have hfz30_4 := blk_frozen BK176.out 4
                  have hfz30_5 := blk_frozen BK176.out 5
                  have hfz30_6 := blk_frozen BK176.out 6
                  have hfz30_7 := blk_frozen BK176.out 7
                  have hfz30_8 := blk_frozen BK176.out 8
                  have hfz30_9 := blk_frozen BK176.out 9
                  go_wp2_with (first | (go_at_call 17; (with_reducible refine (check_Config.calls k a0_0 a0_1 a0_2 a0_3 a0_4 a0_5 a0_6 a0_7 a0_8 a0_9 t190 _ A25.out).mono ?_); rintro e w31 ⟨rfl, hb⟩; have n0_ := Aside0.mk (Kd.R_below (by (with_reducible repeat (first | apply Kd.R_alloc | apply Kd.R_drewN | apply Kd.R_drew)); exact HO184.out) hb); have n1_ := Aside0.mk (blk_below (g := gb176) (o := .cells #[.int .i64 a0_0, .int .i64 a0_1, .int .i64 a0_2, .int .i64 a0_3, .int .i64 a0_4, .int .i64 a0_5, .int .i64 a0_6, .int .i64 a0_7, .int .i64 a0_8, .int .i64 a0_9] 23 (0, 0)) (by (with_reducible repeat (first | refine blk_drewN ?_ _ | refine blk_drew ?_ | refine blk_alloc ?_ _)); exact BK176.out) hb); have n2_ := Aside0.mk (below_step (by repeat (first | (with_reducible first | exact HB.out | apply below_alloc | apply pw_below_drewN | apply below_drew1 | refine below_set ?_ GE176.out) | exact HB.out)) hb); clear HO184; clear BK176; clear HB; have HO184 := n0_; have BK176 := n1_; have HB := n2_; clear n0_ n1_ n2_; (try clear hb); (try clear hb2); (try clear hk); (try clear hi); have hcz32_0 : w31.cell? ⟨gb176, 0, none⟩ = some (.int .i64 a0_0) := (blk_cell BK176.out 0).trans rfl; have hcz32_1 : w31.cell? ⟨gb176, 1, none⟩ = some (.int .i64 a0_1) := (blk_cell BK176.out 1).trans rfl; have hcz32_2 : w31.cell? ⟨gb176, 2, none⟩ = some (.int .i64 a0_2) := (blk_cell BK176.out 2).trans rfl; have hcz32_3 : w31.cell? ⟨gb176, 3, none⟩ = some (.int .i64 a0_3) := (blk_cell BK176.out 3).trans rfl; have hcz32_4 : w31.cell? ⟨gb176, 4, none⟩ = some (.int .i64 a0_4) := (blk_cell BK176.out 4).trans rfl; have hcz32_5 : w31.cell? ⟨gb176, 5, none⟩ = some (.int .i64 a0_5) := (blk_cell BK176.out 5).trans rfl; have hcz32_6 : w31.cell? ⟨gb176, 6, none⟩ = some (.int .i64 a0_6) := (blk_cell BK176.out 6).trans rfl; have hcz32_7 : w31.cell? ⟨gb176, 7, none⟩ = some (.int .i64 a0_7) := (blk_cell BK176.out 7).trans rfl; have hcz32_8 : w31.cell? ⟨gb176, 8, none⟩ = some (.int .i64 a0_8) := (blk_cell BK176.out 8).trans rfl; have hcz32_9 : w31.cell? ⟨gb176, 9, none⟩ = some (.int .i64 a0_9) := (blk_cell BK176.out 9).trans rfl; have hfz32_0 := blk_frozen BK176.out 0; have hfz32_1 := blk_frozen BK176.out 1; have hfz32_2 := blk_frozen BK176.out 2; have hfz32_3 := blk_frozen BK176.out 3; have hfz32_4 := blk_frozen BK176.out 4; have hfz32_5 := blk_frozen BK176.out 5; have hfz32_6 := blk_frozen BK176.out 6; have hfz32_7 := blk_frozen BK176.out 7; have hfz32_8 := blk_frozen BK176.out 8; have hfz32_9 := blk_frozen BK176.out 9) | (go_at_call 17; (with_reducible refine (check_Config.calls k a0_0 a0_1 a0_2 a0_3 a0_4 a0_5 a0_6 a0_7 a0_8 a0_9 t190 _ A28.out).mono ?_); rintro e w33 ⟨rfl, hb⟩; have n0_ := Aside0.mk (Kd.R_below (by (with_reducible repeat (first | apply Kd.R_alloc | apply Kd.R_drewN | apply Kd.R_drew)); exact HO184.out) hb); have n1_ := Aside0.mk (blk_below (g := gb176) (o := .cells #[.int .i64 a0_0, .int .i64 a0_1, .int .i64 a0_2, .int .i64 a0_3, .int .i64 a0_4, .int .i64 a0_5, .int .i64 a0_6, .int .i64 a0_7, .int .i64 a0_8, .int .i64 a0_9] 23 (0, 0)) (by (with_reducible repeat (first | refine blk_drewN ?_ _ | refine blk_drew ?_ | refine blk_alloc ?_ _)); exact BK176.out) hb); have n2_ := Aside0.mk (below_step (by repeat (first | (with_reducible first | exact HB.out | apply below_alloc | apply pw_below_drewN | apply below_drew1 | refine below_set ?_ GE176.out) | exact HB.out)) hb); clear HO184; clear BK176; clear HB; have HO184 := n0_; have BK176 := n1_; have HB := n2_; clear n0_ n1_ n2_; (try clear hb); (try clear hb2); (try clear hk); (try clear hi)))
                  first | go_meet | (refine Met.intro ?_; go_step; (try rw [c5b0]); (try rw [c6b0]); (try rw [c23b0]); (try rw [c24b0]); (try rw [c26b0]); (try rw [c29b0]); (repeat apply Exists.intro); refine ⟨?rel, rfl⟩)
                  case rel => exact ⟨_, (true), (by first | rfl | (simp; done) | (simp [*]; done)), H', ⟨by first | omega | exact Nat.le_refl _⟩, ⟨by (with_reducible repeat (first | refine blk_drewN ?_ _ | refine blk_drew ?_ | refine blk_alloc ?_ _)); exact BK176.out⟩, ⟨by repeat (first | (with_reducible first | exact HB.out | apply below_alloc | apply pw_below_drewN | apply below_drew1 | refine below_set ?_ GE176.out) | exact HB.out)⟩⟩
                · rw [if_neg c29] at H
                  have c29b0 : (t190 == 3) = false := beq_eq_false_iff_ne.mpr c29
                  have c29b1 : (t190 != 3) = true := bne_iff_ne.mpr c29
                  have H' := Aside0.mk H
                  clear H
                  have hcz34_0 : w22.cell? ⟨gb176, 0, none⟩ = some (.int .i64 a0_0) := (blk_cell BK176.out 0).trans rfl
                  have hcz34_1 : w22.cell? ⟨gb176, 1, none⟩ = some (.int .i64 a0_1) := (blk_cell BK176.out 1).trans rfl
                  have hcz34_2 : w22.cell? ⟨gb176, 2, none⟩ = some (.int .i64 a0_2) := (blk_cell BK176.out 2).trans rfl
                  have hcz34_3 : w22.cell? ⟨gb176, 3, none⟩ = some (.int .i64 a0_3) := (blk_cell BK176.out 3).trans rfl
                  have hcz34_4 : w22.cell? ⟨gb176, 4, none⟩ = some (.int .i64 a0_4) := (blk_cell BK176.out 4).trans rfl
                  have hcz34_5 : w22.cell? ⟨gb176, 5, none⟩ = some (.int .i64 a0_5) := (blk_cell BK176.out 5).trans rfl
                  have hcz34_6 : w22.cell? ⟨gb176, 6, none⟩ = some (.int .i64 a0_6) := (blk_cell BK176.out 6).trans rfl
                  have hcz34_7 : w22.cell? ⟨gb176, 7, none⟩ = some (.int .i64 a0_7) := (blk_cell BK176.out 7).trans rfl
                  have hcz34_8 : w22.cell? ⟨gb176, 8, none⟩ = some (.int .i64 a0_8) := (blk_cell BK176.out 8).trans rfl
                  have hcz34_9 : w22.cell? ⟨gb176, 9, none⟩ = some (.int .i64 a0_9) := (blk_cell BK176.out 9).trans rfl
                  have hfz34_0 := blk_frozen BK176.out 0
                  have hfz34_1 := blk_frozen BK176.out 1
                  have hfz34_2 := blk_frozen BK176.out 2
                  have hfz34_3 := blk_frozen BK176.out 3
                  have hfz34_4 := blk_frozen BK176.out 4
                  have hfz34_5 := blk_frozen BK176.out 5
                  have hfz34_6 := blk_frozen BK176.out 6
                  have hfz34_7 := blk_frozen BK176.out 7
                  have hfz34_8 := blk_frozen BK176.out 8
                  have hfz34_9 := blk_frozen BK176.out 9
                  go_wp2_with (first | (go_at_call 17; (with_reducible refine (check_Config.calls k a0_0 a0_1 a0_2 a0_3 a0_4 a0_5 a0_6 a0_7 a0_8 a0_9 t190 _ A25.out).mono ?_); rintro e w35 ⟨rfl, hb⟩; have n0_ := Aside0.mk (Kd.R_below (by (with_reducible repeat (first | apply Kd.R_alloc | apply Kd.R_drewN | apply Kd.R_drew)); exact HO184.out) hb); have n1_ := Aside0.mk (blk_below (g := gb176) (o := .cells #[.int .i64 a0_0, .int .i64 a0_1, .int .i64 a0_2, .int .i64 a0_3, .int .i64 a0_4, .int .i64 a0_5, .int .i64 a0_6, .int .i64 a0_7, .int .i64 a0_8, .int .i64 a0_9] 23 (0, 0)) (by (with_reducible repeat (first | refine blk_drewN ?_ _ | refine blk_drew ?_ | refine blk_alloc ?_ _)); exact BK176.out) hb); have n2_ := Aside0.mk (below_step (by repeat (first | (with_reducible first | exact HB.out | apply below_alloc | apply pw_below_drewN | apply below_drew1 | refine below_set ?_ GE176.out) | exact HB.out)) hb); clear HO184; clear BK176; clear HB; have HO184 := n0_; have BK176 := n1_; have HB := n2_; clear n0_ n1_ n2_; (try clear hb); (try clear hb2); (try clear hk); (try clear hi); have hcz36_0 : w35.cell? ⟨gb176, 0, none⟩ = some (.int .i64 a0_0) := (blk_cell BK176.out 0).trans rfl; have hcz36_1 : w35.cell? ⟨gb176, 1, none⟩ = some (.int .i64 a0_1) := (blk_cell BK176.out 1).trans rfl; have hcz36_2 : w35.cell? ⟨gb176, 2, none⟩ = some (.int .i64 a0_2) := (blk_cell BK176.out 2).trans rfl; have hcz36_3 : w35.cell? ⟨gb176, 3, none⟩ = some (.int .i64 a0_3) := (blk_cell BK176.out 3).trans rfl; have hcz36_4 : w35.cell? ⟨gb176, 4, none⟩ = some (.int .i64 a0_4) := (blk_cell BK176.out 4).trans rfl; have hcz36_5 : w35.cell? ⟨gb176, 5, none⟩ = some (.int .i64 a0_5) := (blk_cell BK176.out 5).trans rfl; have hcz36_6 : w35.cell? ⟨gb176, 6, none⟩ = some (.int .i64 a0_6) := (blk_cell BK176.out 6).trans rfl; have hcz36_7 : w35.cell? ⟨gb176, 7, none⟩ = some (.int .i64 a0_7) := (blk_cell BK176.out 7).trans rfl; have hcz36_8 : w35.cell? ⟨gb176, 8, none⟩ = some (.int .i64 a0_8) := (blk_cell BK176.out 8).trans rfl; have hcz36_9 : w35.cell? ⟨gb176, 9, none⟩ = some (.int .i64 a0_9) := (blk_cell BK176.out 9).trans rfl; have hfz36_0 := blk_frozen BK176.out 0; have hfz36_1 := blk_frozen BK176.out 1; have hfz36_2 := blk_frozen BK176.out 2; have hfz36_3 := blk_frozen BK176.out 3; have hfz36_4 := blk_frozen BK176.out 4; have hfz36_5 := blk_frozen BK176.out 5; have hfz36_6 := blk_frozen BK176.out 6; have hfz36_7 := blk_frozen BK176.out 7; have hfz36_8 := blk_frozen BK176.out 8; have hfz36_9 := blk_frozen BK176.out 9) | (go_at_call 17; (with_reducible refine (check_Config.calls k a0_0 a0_1 a0_2 a0_3 a0_4 a0_5 a0_6 a0_7 a0_8 a0_9 t190 _ A28.out).mono ?_); rintro e w37 ⟨rfl, hb⟩; have n0_ := Aside0.mk (Kd.R_below (by (with_reducible repeat (first | apply Kd.R_alloc | apply Kd.R_drewN | apply Kd.R_drew)); exact HO184.out) hb); have n1_ := Aside0.mk (blk_below (g := gb176) (o := .cells #[.int .i64 a0_0, .int .i64 a0_1, .int .i64 a0_2, .int .i64 a0_3, .int .i64 a0_4, .int .i64 a0_5, .int .i64 a0_6, .int .i64 a0_7, .int .i64 a0_8, .int .i64 a0_9] 23 (0, 0)) (by (with_reducible repeat (first | refine blk_drewN ?_ _ | refine blk_drew ?_ | refine blk_alloc ?_ _)); exact BK176.out) hb); have n2_ := Aside0.mk (below_step (by repeat (first | (with_reducible first | exact HB.out | apply below_alloc | apply pw_below_drewN | apply below_drew1 | refine below_set ?_ GE176.out) | exact HB.out)) hb); clear HO184; clear BK176; clear HB; have HO184 := n0_; have BK176 := n1_; have HB := n2_; clear n0_ n1_ n2_; (try clear hb); (try clear hb2); (try clear hk); (try clear hi)))
                  first | go_meet | (refine Met.intro ?_; go_step; (try rw [c5b0]); (try rw [c6b0]); (try rw [c23b0]); (try rw [c24b0]); (try rw [c26b0]); (try rw [c29b0]); (repeat apply Exists.intro); refine ⟨?rel, rfl⟩)
                  case rel => exact ⟨_, (false), (by first | rfl | (simp; done) | (simp [*]; done)), H', ⟨by first | omega | exact Nat.le_refl _⟩, ⟨by (with_reducible repeat (first | refine blk_drewN ?_ _ | refine blk_drew ?_ | refine blk_alloc ?_ _)); exact BK176.out⟩, ⟨by repeat (first | (with_reducible first | exact HB.out | apply below_alloc | apply pw_below_drewN | apply below_drew1 | refine below_set ?_ GE176.out) | exact HB.out)⟩⟩
              · replace c27 := Bool.eq_false_iff.mpr c27
                subst c27
                have H1 : (millwrightlaw04_CheckTells.j0 k y178 t177 true) = some true := by rw [if_neg (show ¬ (false = true) by decide)] at H; exact H
                clear H
                have H := H1
                clear H1
                have H' := Aside0.mk H
                clear H
                have hcz38_0 : w22.cell? ⟨gb176, 0, none⟩ = some (.int .i64 a0_0) := (blk_cell BK176.out 0).trans rfl
                have hcz38_1 : w22.cell? ⟨gb176, 1, none⟩ = some (.int .i64 a0_1) := (blk_cell BK176.out 1).trans rfl
                have hcz38_2 : w22.cell? ⟨gb176, 2, none⟩ = some (.int .i64 a0_2) := (blk_cell BK176.out 2).trans rfl
                have hcz38_3 : w22.cell? ⟨gb176, 3, none⟩ = some (.int .i64 a0_3) := (blk_cell BK176.out 3).trans rfl
                have hcz38_4 : w22.cell? ⟨gb176, 4, none⟩ = some (.int .i64 a0_4) := (blk_cell BK176.out 4).trans rfl
                have hcz38_5 : w22.cell? ⟨gb176, 5, none⟩ = some (.int .i64 a0_5) := (blk_cell BK176.out 5).trans rfl
                have hcz38_6 : w22.cell? ⟨gb176, 6, none⟩ = some (.int .i64 a0_6) := (blk_cell BK176.out 6).trans rfl
                have hcz38_7 : w22.cell? ⟨gb176, 7, none⟩ = some (.int .i64 a0_7) := (blk_cell BK176.out 7).trans rfl
                have hcz38_8 : w22.cell? ⟨gb176, 8, none⟩ = some (.int .i64 a0_8) := (blk_cell BK176.out 8).trans rfl
                have hcz38_9 : w22.cell? ⟨gb176, 9, none⟩ = some (.int .i64 a0_9) := (blk_cell BK176.out 9).trans rfl
                have hfz38_0 := blk_frozen BK176.out 0
                have hfz38_1 := blk_frozen BK176.out 1
                have hfz38_2 := blk_frozen BK176.out 2
                have hfz38_3 := blk_frozen BK176.out 3
                have hfz38_4 := blk_frozen BK176.out 4
                have hfz38_5 := blk_frozen BK176.out 5
                have hfz38_6 := blk_frozen BK176.out 6
                have hfz38_7 := blk_frozen BK176.out 7
                have hfz38_8 := blk_frozen BK176.out 8
                have hfz38_9 := blk_frozen BK176.out 9
                go_wp2_with (first | (go_at_call 17; (with_reducible refine (check_Config.calls k a0_0 a0_1 a0_2 a0_3 a0_4 a0_5 a0_6 a0_7 a0_8 a0_9 t190 _ A25.out).mono ?_); rintro e w39 ⟨rfl, hb⟩; have n0_ := Aside0.mk (Kd.R_below (by (with_reducible repeat (first | apply Kd.R_alloc | apply Kd.R_drewN | apply Kd.R_drew)); exact HO184.out) hb); have n1_ := Aside0.mk (blk_below (g := gb176) (o := .cells #[.int .i64 a0_0, .int .i64 a0_1, .int .i64 a0_2, .int .i64 a0_3, .int .i64 a0_4, .int .i64 a0_5, .int .i64 a0_6, .int .i64 a0_7, .int .i64 a0_8, .int .i64 a0_9] 23 (0, 0)) (by (with_reducible repeat (first | refine blk_drewN ?_ _ | refine blk_drew ?_ | refine blk_alloc ?_ _)); exact BK176.out) hb); have n2_ := Aside0.mk (below_step (by repeat (first | (with_reducible first | exact HB.out | apply below_alloc | apply pw_below_drewN | apply below_drew1 | refine below_set ?_ GE176.out) | exact HB.out)) hb); clear HO184; clear BK176; clear HB; have HO184 := n0_; have BK176 := n1_; have HB := n2_; clear n0_ n1_ n2_; (try clear hb); (try clear hb2); (try clear hk); (try clear hi)))
                first | go_meet | (refine Met.intro ?_; go_step; (try rw [c5b0]); (try rw [c6b0]); (try rw [c23b0]); (try rw [c24b0]); (try rw [c26b0]); (repeat apply Exists.intro); refine ⟨?rel, rfl⟩)
                case rel => exact ⟨_, (true), (by first | rfl | (simp; done) | (simp [*]; done)), H', ⟨by first | omega | exact Nat.le_refl _⟩, ⟨by (with_reducible repeat (first | refine blk_drewN ?_ _ | refine blk_drew ?_ | refine blk_alloc ?_ _)); exact BK176.out⟩, ⟨by repeat (first | (with_reducible first | exact HB.out | apply below_alloc | apply pw_below_drewN | apply below_drew1 | refine below_set ?_ GE176.out) | exact HB.out)⟩⟩
            · rw [if_neg c26] at H
              have c26b0 : (t190 == 0) = false := beq_eq_false_iff_ne.mpr c26
              have c26b1 : (t190 != 0) = true := bne_iff_ne.mpr c26
              by_cases c40 : t189 = true
              · subst c40
                have H1 : (millwrightlaw04_CheckTells.j0 k y178 t177 true) = some true := by rw [if_pos rfl] at H; exact H
                clear H
                have H := H1
                clear H1
                have H' := Aside0.mk H
                clear H
                have hcz41_0 : w22.cell? ⟨gb176, 0, none⟩ = some (.int .i64 a0_0) := (blk_cell BK176.out 0).trans rfl
                have hcz41_1 : w22.cell? ⟨gb176, 1, none⟩ = some (.int .i64 a0_1) := (blk_cell BK176.out 1).trans rfl
                have hcz41_2 : w22.cell? ⟨gb176, 2, none⟩ = some (.int .i64 a0_2) := (blk_cell BK176.out 2).trans rfl
                have hcz41_3 : w22.cell? ⟨gb176, 3, none⟩ = some (.int .i64 a0_3) := (blk_cell BK176.out 3).trans rfl
                have hcz41_4 : w22.cell? ⟨gb176, 4, none⟩ = some (.int .i64 a0_4) := (blk_cell BK176.out 4).trans rfl
                have hcz41_5 : w22.cell? ⟨gb176, 5, none⟩ = some (.int .i64 a0_5) := (blk_cell BK176.out 5).trans rfl
                have hcz41_6 : w22.cell? ⟨gb176, 6, none⟩ = some (.int .i64 a0_6) := (blk_cell BK176.out 6).trans rfl
                have hcz41_7 : w22.cell? ⟨gb176, 7, none⟩ = some (.int .i64 a0_7) := (blk_cell BK176.out 7).trans rfl
                have hcz41_8 : w22.cell? ⟨gb176, 8, none⟩ = some (.int .i64 a0_8) := (blk_cell BK176.out 8).trans rfl
                have hcz41_9 : w22.cell? ⟨gb176, 9, none⟩ = some (.int .i64 a0_9) := (blk_cell BK176.out 9).trans rfl
                have hfz41_0 := blk_frozen BK176.out 0
                have hfz41_1 := blk_frozen BK176.out 1
                have hfz41_2 := blk_frozen BK176.out 2
                have hfz41_3 := blk_frozen BK176.out 3
                have hfz41_4 := blk_frozen BK176.out 4
                have hfz41_5 := blk_frozen BK176.out 5
                have hfz41_6 := blk_frozen BK176.out 6
                have hfz41_7 := blk_frozen BK176.out 7
                have hfz41_8 := blk_frozen BK176.out 8
                have hfz41_9 := blk_frozen BK176.out 9
                go_wp2_with (first | (go_at_call 17; (with_reducible refine (check_Config.calls k a0_0 a0_1 a0_2 a0_3 a0_4 a0_5 a0_6 a0_7 a0_8 a0_9 t190 _ A25.out).mono ?_); rintro e w42 ⟨rfl, hb⟩; have n0_ := Aside0.mk (Kd.R_below (by (with_reducible repeat (first | apply Kd.R_alloc | apply Kd.R_drewN | apply Kd.R_drew)); exact HO184.out) hb); have n1_ := Aside0.mk (blk_below (g := gb176) (o := .cells #[.int .i64 a0_0, .int .i64 a0_1, .int .i64 a0_2, .int .i64 a0_3, .int .i64 a0_4, .int .i64 a0_5, .int .i64 a0_6, .int .i64 a0_7, .int .i64 a0_8, .int .i64 a0_9] 23 (0, 0)) (by (with_reducible repeat (first | refine blk_drewN ?_ _ | refine blk_drew ?_ | refine blk_alloc ?_ _)); exact BK176.out) hb); have n2_ := Aside0.mk (below_step (by repeat (first | (with_reducible first | exact HB.out | apply below_alloc | apply pw_below_drewN | apply below_drew1 | refine below_set ?_ GE176.out) | exact HB.out)) hb); clear HO184; clear BK176; clear HB; have HO184 := n0_; have BK176 := n1_; have HB := n2_; clear n0_ n1_ n2_; (try clear hb); (try clear hb2); (try clear hk); (try clear hi)))
                first | go_meet | (refine Met.intro ?_; go_step; (try rw [c5b0]); (try rw [c6b0]); (try rw [c23b0]); (try rw [c24b0]); (try rw [c26b0]); (repeat apply Exists.intro); refine ⟨?rel, rfl⟩)
                case rel => exact ⟨_, (true), (by first | rfl | (simp; done) | (simp [*]; done)), H', ⟨by first | omega | exact Nat.le_refl _⟩, ⟨by (with_reducible repeat (first | refine blk_drewN ?_ _ | refine blk_drew ?_ | refine blk_alloc ?_ _)); exact BK176.out⟩, ⟨by repeat (first | (with_reducible first | exact HB.out | apply below_alloc | apply pw_below_drewN | apply below_drew1 | refine below_set ?_ GE176.out) | exact HB.out)⟩⟩
              · replace c40 := Bool.eq_false_iff.mpr c40
                subst c40
                have H1 : ((check_Config.f k a0_0 a0_1 a0_2 a0_3 a0_4 a0_5 a0_6 a0_7 a0_8 a0_9).bind fun t192 => (if t192 = 3 then (millwrightlaw04_CheckTells.j0 k y178 t177 false) else (millwrightlaw04_CheckTells.j0 k y178 t177 true))) = some true := by rw [if_neg (show ¬ (false = true) by decide)] at H; exact H
                clear H
                have H := H1
                clear H1
                replace H := Option.bind_eq_some_iff.mp H
                obtain ⟨t192, A430, H⟩ := H
                replace H : (if t192 = 3 then (millwrightlaw04_CheckTells.j0 k y178 t177 false) else (millwrightlaw04_CheckTells.j0 k y178 t177 true)) = some true := H
                have A43 := Aside0.mk A430
                clear A430
                have hsame_ := Option.some.inj (A25.out.symm.trans A43.out)
                subst hsame_
                by_cases c44 : t190 = 3
                · rw [if_pos c44] at H
                  have c44b0 : (t190 == 3) = true := beq_iff_eq.mpr c44
                  have c44b1 : (t190 != 3) = false := bne_eq_false_iff_eq.mpr c44
                  clear c44
                  have H' := Aside0.mk H
                  clear H
                  have hcz45_0 : w22.cell? ⟨gb176, 0, none⟩ = some (.int .i64 a0_0) := (blk_cell BK176.out 0).trans rfl
                  have hcz45_1 : w22.cell? ⟨gb176, 1, none⟩ = some (.int .i64 a0_1) := (blk_cell BK176.out 1).trans rfl
                  have hcz45_2 : w22.cell? ⟨gb176, 2, none⟩ = some (.int .i64 a0_2) := (blk_cell BK176.out 2).trans rfl
                  have hcz45_3 : w22.cell? ⟨gb176, 3, none⟩ = some (.int .i64 a0_3) := (blk_cell BK176.out 3).trans rfl
                  have hcz45_4 : w22.cell? ⟨gb176, 4, none⟩ = some (.int .i64 a0_4) := (blk_cell BK176.out 4).trans rfl
                  have hcz45_5 : w22.cell? ⟨gb176, 5, none⟩ = some (.int .i64 a0_5) := (blk_cell BK176.out 5).trans rfl
                  have hcz45_6 : w22.cell? ⟨gb176, 6, none⟩ = some (.int .i64 a0_6) := (blk_cell BK176.out 6).trans rfl
                  have hcz45_7 : w22.cell? ⟨gb176, 7, none⟩ = some (.int .i64 a0_7) := (blk_cell BK176.out 7).trans rfl
                  have hcz45_8 : w22.cell? ⟨gb176, 8, none⟩ = some (.int .i64 a0_8) := (blk_cell BK176.out 8).trans rfl
                  have hcz45_9 : w22.cell? ⟨gb176, 9, none⟩ = some (.int .i64 a0_9) := (blk_cell BK176.out 9).trans rfl
                  have hfz45_0 := blk_frozen BK176.out 0
                  have hfz45_1 := blk_frozen BK176.out 1
                  have hfz45_2 := blk_frozen BK176.out 2
                  have hfz45_3 := blk_frozen BK176.out 3
                  have hfz45_4 := blk_frozen BK176.out 4
                  have hfz45_5 := blk_frozen BK176.out 5
                  have hfz45_6 := blk_frozen BK176.out 6
                  have hfz45_7 := blk_frozen BK176.out 7
                  have hfz45_8 := blk_frozen BK176.out 8
                  have hfz45_9 := blk_frozen BK176.out 9
                  go_wp2_with (first | (go_at_call 17; (with_reducible refine (check_Config.calls k a0_0 a0_1 a0_2 a0_3 a0_4 a0_5 a0_6 a0_7 a0_8 a0_9 t190 _ A25.out).mono ?_); rintro e w46 ⟨rfl, hb⟩; have n0_ := Aside0.mk (Kd.R_below (by (with_reducible repeat (first | apply Kd.R_alloc | apply Kd.R_drewN | apply Kd.R_drew)); exact HO184.out) hb); have n1_ := Aside0.mk (blk_below (g := gb176) (o := .cells #[.int .i64 a0_0, .int .i64 a0_1, .int .i64 a0_2, .int .i64 a0_3, .int .i64 a0_4, .int .i64 a0_5, .int .i64 a0_6, .int .i64 a0_7, .int .i64 a0_8, .int .i64 a0_9] 23 (0, 0)) (by (with_reducible repeat (first | refine blk_drewN ?_ _ | refine blk_drew ?_ | refine blk_alloc ?_ _)); exact BK176.out) hb); have n2_ := Aside0.mk (below_step (by repeat (first | (with_reducible first | exact HB.out | apply below_alloc | apply pw_below_drewN | apply below_drew1 | refine below_set ?_ GE176.out) | exact HB.out)) hb); clear HO184; clear BK176; clear HB; have HO184 := n0_; have BK176 := n1_; have HB := n2_; clear n0_ n1_ n2_; (try clear hb); (try clear hb2); (try clear hk); (try clear hi); have hcz47_0 : w46.cell? ⟨gb176, 0, none⟩ = some (.int .i64 a0_0) := (blk_cell BK176.out 0).trans rfl; have hcz47_1 : w46.cell? ⟨gb176, 1, none⟩ = some (.int .i64 a0_1) := (blk_cell BK176.out 1).trans rfl; have hcz47_2 : w46.cell? ⟨gb176, 2, none⟩ = some (.int .i64 a0_2) := (blk_cell BK176.out 2).trans rfl; have hcz47_3 : w46.cell? ⟨gb176, 3, none⟩ = some (.int .i64 a0_3) := (blk_cell BK176.out 3).trans rfl; have hcz47_4 : w46.cell? ⟨gb176, 4, none⟩ = some (.int .i64 a0_4) := (blk_cell BK176.out 4).trans rfl; have hcz47_5 : w46.cell? ⟨gb176, 5, none⟩ = some (.int .i64 a0_5) := (blk_cell BK176.out 5).trans rfl; have hcz47_6 : w46.cell? ⟨gb176, 6, none⟩ = some (.int .i64 a0_6) := (blk_cell BK176.out 6).trans rfl; have hcz47_7 : w46.cell? ⟨gb176, 7, none⟩ = some (.int .i64 a0_7) := (blk_cell BK176.out 7).trans rfl; have hcz47_8 : w46.cell? ⟨gb176, 8, none⟩ = some (.int .i64 a0_8) := (blk_cell BK176.out 8).trans rfl; have hcz47_9 : w46.cell? ⟨gb176, 9, none⟩ = some (.int .i64 a0_9) := (blk_cell BK176.out 9).trans rfl; have hfz47_0 := blk_frozen BK176.out 0; have hfz47_1 := blk_frozen BK176.out 1; have hfz47_2 := blk_frozen BK176.out 2; have hfz47_3 := blk_frozen BK176.out 3; have hfz47_4 := blk_frozen BK176.out 4; have hfz47_5 := blk_frozen BK176.out 5; have hfz47_6 := blk_frozen BK176.out 6; have hfz47_7 := blk_frozen BK176.out 7; have hfz47_8 := blk_frozen BK176.out 8; have hfz47_9 := blk_frozen BK176.out 9) | (go_at_call 17; (with_reducible refine (check_Config.calls k a0_0 a0_1 a0_2 a0_3 a0_4 a0_5 a0_6 a0_7 a0_8 a0_9 t190 _ A43.out).mono ?_); rintro e w48 ⟨rfl, hb⟩; have n0_ := Aside0.mk (Kd.R_below (by (with_reducible repeat (first | apply Kd.R_alloc | apply Kd.R_drewN | apply Kd.R_drew)); exact HO184.out) hb); have n1_ := Aside0.mk (blk_below (g := gb176) (o := .cells #[.int .i64 a0_0, .int .i64 a0_1, .int .i64 a0_2, .int .i64 a0_3, .int .i64 a0_4, .int .i64 a0_5, .int .i64 a0_6, .int .i64 a0_7, .int .i64 a0_8, .int .i64 a0_9] 23 (0, 0)) (by (with_reducible repeat (first | refine blk_drewN ?_ _ | refine blk_drew ?_ | refine blk_alloc ?_ _)); exact BK176.out) hb); have n2_ := Aside0.mk (below_step (by repeat (first | (with_reducible first | exact HB.out | apply below_alloc | apply pw_below_drewN | apply below_drew1 | refine below_set ?_ GE176.out) | exact HB.out)) hb); clear HO184; clear BK176; clear HB; have HO184 := n0_; have BK176 := n1_; have HB := n2_; clear n0_ n1_ n2_; (try clear hb); (try clear hb2); (try clear hk); (try clear hi)))
                  first | go_meet | (refine Met.intro ?_; go_step; (try rw [c5b0]); (try rw [c6b0]); (try rw [c23b0]); (try rw [c24b0]); (try rw [c26b0]); (try rw [c44b0]); (repeat apply Exists.intro); refine ⟨?rel, rfl⟩)
                  case rel => exact ⟨_, (false), (by first | rfl | (simp; done) | (simp [*]; done)), H', ⟨by first | omega | exact Nat.le_refl _⟩, ⟨by (with_reducible repeat (first | refine blk_drewN ?_ _ | refine blk_drew ?_ | refine blk_alloc ?_ _)); exact BK176.out⟩, ⟨by repeat (first | (with_reducible first | exact HB.out | apply below_alloc | apply pw_below_drewN | apply below_drew1 | refine below_set ?_ GE176.out) | exact HB.out)⟩⟩
                · rw [if_neg c44] at H
                  have c44b0 : (t190 == 3) = false := beq_eq_false_iff_ne.mpr c44
                  have c44b1 : (t190 != 3) = true := bne_iff_ne.mpr c44
                  have H' := Aside0.mk H
                  clear H
                  have hcz49_0 : w22.cell? ⟨gb176, 0, none⟩ = some (.int .i64 a0_0) := (blk_cell BK176.out 0).trans rfl
                  have hcz49_1 : w22.cell? ⟨gb176, 1, none⟩ = some (.int .i64 a0_1) := (blk_cell BK176.out 1).trans rfl
                  have hcz49_2 : w22.cell? ⟨gb176, 2, none⟩ = some (.int .i64 a0_2) := (blk_cell BK176.out 2).trans rfl
                  have hcz49_3 : w22.cell? ⟨gb176, 3, none⟩ = some (.int .i64 a0_3) := (blk_cell BK176.out 3).trans rfl
                  have hcz49_4 : w22.cell? ⟨gb176, 4, none⟩ = some (.int .i64 a0_4) := (blk_cell BK176.out 4).trans rfl
                  have hcz49_5 : w22.cell? ⟨gb176, 5, none⟩ = some (.int .i64 a0_5) := (blk_cell BK176.out 5).trans rfl
                  have hcz49_6 : w22.cell? ⟨gb176, 6, none⟩ = some (.int .i64 a0_6) := (blk_cell BK176.out 6).trans rfl
                  have hcz49_7 : w22.cell? ⟨gb176, 7, none⟩ = some (.int .i64 a0_7) := (blk_cell BK176.out 7).trans rfl
                  have hcz49_8 : w22.cell? ⟨gb176, 8, none⟩ = some (.int .i64 a0_8) := (blk_cell BK176.out 8).trans rfl
                  have hcz49_9 : w22.cell? ⟨gb176, 9, none⟩ = some (.int .i64 a0_9) := (blk_cell BK176.out 9).trans rfl
                  have hfz49_0 := blk_frozen BK176.out 0
                  have hfz49_1 := blk_frozen BK176.out 1
                  have hfz49_2 := blk_frozen BK176.out 2
                  have hfz49_3 := blk_frozen BK176.out 3
                  have hfz49_4 := blk_frozen BK176.out 4
                  have hfz49_5 := blk_frozen BK176.out 5
                  have hfz49_6 := blk_frozen BK176.out 6
                  have hfz49_7 := blk_frozen BK176.out 7
                  have hfz49_8 := blk_frozen BK176.out 8
                  have hfz49_9 := blk_frozen BK176.out 9
                  go_wp2_with (first | (go_at_call 17; (with_reducible refine (check_Config.calls k a0_0 a0_1 a0_2 a0_3 a0_4 a0_5 a0_6 a0_7 a0_8 a0_9 t190 _ A25.out).mono ?_); rintro e w50 ⟨rfl, hb⟩; have n0_ := Aside0.mk (Kd.R_below (by (with_reducible repeat (first | apply Kd.R_alloc | apply Kd.R_drewN | apply Kd.R_drew)); exact HO184.out) hb); have n1_ := Aside0.mk (blk_below (g := gb176) (o := .cells #[.int .i64 a0_0, .int .i64 a0_1, .int .i64 a0_2, .int .i64 a0_3, .int .i64 a0_4, .int .i64 a0_5, .int .i64 a0_6, .int .i64 a0_7, .int .i64 a0_8, .int .i64 a0_9] 23 (0, 0)) (by (with_reducible repeat (first | refine blk_drewN ?_ _ | refine blk_drew ?_ | refine blk_alloc ?_ _)); exact BK176.out) hb); have n2_ := Aside0.mk (below_step (by repeat (first | (with_reducible first | exact HB.out | apply below_alloc | apply pw_below_drewN | apply below_drew1 | refine below_set ?_ GE176.out) | exact HB.out)) hb); clear HO184; clear BK176; clear HB; have HO184 := n0_; have BK176 := n1_; have HB := n2_; clear n0_ n1_ n2_; (try clear hb); (try clear hb2); (try clear hk); (try clear hi); have hcz51_0 : w50.cell? ⟨gb176, 0, none⟩ = some (.int .i64 a0_0) := (blk_cell BK176.out 0).trans rfl; have hcz51_1 : w50.cell? ⟨gb176, 1, none⟩ = some (.int .i64 a0_1) := (blk_cell BK176.out 1).trans rfl; have hcz51_2 : w50.cell? ⟨gb176, 2, none⟩ = some (.int .i64 a0_2) := (blk_cell BK176.out 2).trans rfl; have hcz51_3 : w50.cell? ⟨gb176, 3, none⟩ = some (.int .i64 a0_3) := (blk_cell BK176.out 3).trans rfl; have hcz51_4 : w50.cell? ⟨gb176, 4, none⟩ = some (.int .i64 a0_4) := (blk_cell BK176.out 4).trans rfl; have hcz51_5 : w50.cell? ⟨gb176, 5, none⟩ = some (.int .i64 a0_5) := (blk_cell BK176.out 5).trans rfl; have hcz51_6 : w50.cell? ⟨gb176, 6, none⟩ = some (.int .i64 a0_6) := (blk_cell BK176.out 6).trans rfl; have hcz51_7 : w50.cell? ⟨gb176, 7, none⟩ = some (.int .i64 a0_7) := (blk_cell BK176.out 7).trans rfl; have hcz51_8 : w50.cell? ⟨gb176, 8, none⟩ = some (.int .i64 a0_8) := (blk_cell BK176.out 8).trans rfl; have hcz51_9 : w50.cell? ⟨gb176, 9, none⟩ = some (.int .i64 a0_9) := (blk_cell BK176.out 9).trans rfl; have hfz51_0 := blk_frozen BK176.out 0; have hfz51_1 := blk_frozen BK176.out 1; have hfz51_2 := blk_frozen BK176.out 2; have hfz51_3 := blk_frozen BK176.out 3; have hfz51_4 := blk_frozen BK176.out 4; have hfz51_5 := blk_frozen BK176.out 5; have hfz51_6 := blk_frozen BK176.out 6; have hfz51_7 := blk_frozen BK176.out 7; have hfz51_8 := blk_frozen BK176.out 8; have hfz51_9 := blk_frozen BK176.out 9) | (go_at_call 17; (with_reducible refine (check_Config.calls k a0_0 a0_1 a0_2 a0_3 a0_4 a0_5 a0_6 a0_7 a0_8 a0_9 t190 _ A43.out).mono ?_); rintro e w52 ⟨rfl, hb⟩; have n0_ := Aside0.mk (Kd.R_below (by (with_reducible repeat (first | apply Kd.R_alloc | apply Kd.R_drewN | apply Kd.R_drew)); exact HO184.out) hb); have n1_ := Aside0.mk (blk_below (g := gb176) (o := .cells #[.int .i64 a0_0, .int .i64 a0_1, .int .i64 a0_2, .int .i64 a0_3, .int .i64 a0_4, .int .i64 a0_5, .int .i64 a0_6, .int .i64 a0_7, .int .i64 a0_8, .int .i64 a0_9] 23 (0, 0)) (by (with_reducible repeat (first | refine blk_drewN ?_ _ | refine blk_drew ?_ | refine blk_alloc ?_ _)); exact BK176.out) hb); have n2_ := Aside0.mk (below_step (by repeat (first | (with_reducible first | exact HB.out | apply below_alloc | apply pw_below_drewN | apply below_drew1 | refine below_set ?_ GE176.out) | exact HB.out)) hb); clear HO184; clear BK176; clear HB; have HO184 := n0_; have BK176 := n1_; have HB := n2_; clear n0_ n1_ n2_; (try clear hb); (try clear hb2); (try clear hk); (try clear hi)))
                  first | go_meet | (refine Met.intro ?_; go_step; (try rw [c5b0]); (try rw [c6b0]); (try rw [c23b0]); (try rw [c24b0]); (try rw [c26b0]); (try rw [c44b0]); (repeat apply Exists.intro); refine ⟨?rel, rfl⟩)
                  case rel => exact ⟨_, (true), (by first | rfl | (simp; done) | (simp [*]; done)), H', ⟨by first | omega | exact Nat.le_refl _⟩, ⟨by (with_reducible repeat (first | refine blk_drewN ?_ _ | refine blk_drew ?_ | refine blk_alloc ?_ _)); exact BK176.out⟩, ⟨by repeat (first | (with_reducible first | exact HB.out | apply below_alloc | apply pw_below_drewN | apply below_drew1 | refine below_set ?_ GE176.out) | exact HB.out)⟩⟩
          · rw [if_neg c24] at H
            have c24b0 : (t186 == t188) = false := beq_eq_false_iff_ne.mpr c24
            have c24b1 : (t186 != t188) = true := bne_iff_ne.mpr c24
            have H' := Aside0.mk H
            clear H
            go_wp2
            first | go_meet | (refine Met.intro ?_; go_step; (try rw [c5b0]); (try rw [c6b0]); (try rw [c23b0]); (try rw [c24b0]); (repeat apply Exists.intro); refine ⟨?rel, rfl⟩)
            case rel => exact ⟨_, (true), (by first | rfl | (simp; done) | (simp [*]; done)), H', ⟨by first | omega | exact Nat.le_refl _⟩, ⟨by (with_reducible repeat (first | refine blk_drewN ?_ _ | refine blk_drew ?_ | refine blk_alloc ?_ _)); exact BK176.out⟩, ⟨by repeat (first | (with_reducible first | exact HB.out | apply below_alloc | apply pw_below_drewN | apply below_drew1 | refine below_set ?_ GE176.out) | exact HB.out)⟩⟩
        · rw [if_neg c23] at H
          have c23b0 : (t185 == t187) = false := beq_eq_false_iff_ne.mpr c23
          have c23b1 : (t185 != t187) = true := bne_iff_ne.mpr c23
          (first | rw [c23b0] | (simp only [i64_w, i32_w]; rw [c23b0]) | skip)
          have H' := Aside0.mk H
          clear H
          go_wp2
          first | go_meet | (refine Met.intro ?_; go_step; (try rw [c5b0]); (try rw [c6b0]); (try rw [c23b0]); (repeat apply Exists.intro); refine ⟨?rel, rfl⟩)
          case rel => exact ⟨_, (true), (by first | rfl | (simp; done) | (simp [*]; done)), H', ⟨by first | omega | exact Nat.le_refl _⟩, ⟨by (with_reducible repeat (first | refine blk_drewN ?_ _ | refine blk_drew ?_ | refine blk_alloc ?_ _)); exact BK176.out⟩, ⟨by repeat (first | (with_reducible first | exact HB.out | apply below_alloc | apply pw_below_drewN | apply below_drew1 | refine below_set ?_ GE176.out) | exact HB.out)⟩⟩
      case rest =>
        clear HC10
        try clear c1
        try clear q1
        try clear c2
        try clear p2
        try clear c3
        try clear c4
        try clear c5
        try clear c5b0
        try clear c5b1
        try clear c6
        try clear c6b0
        try clear c6b1
        try clear c13
        try clear q13
        try clear c14
        try clear c15
        try clear c16
        try clear c23
        try clear c23b0
        try clear c23b1
        try clear c24
        try clear c24b0
        try clear c24b1
        try clear c26
        try clear c26b0
        try clear c26b1
        try clear c27
        try clear c29
        try clear c29b0
        try clear c29b1
        try clear c40
        try clear c44
        try clear c44b0
        try clear c44b1
        try clear hcz14_0
        try clear hcz14_1
        try clear hcz14_2
        try clear hcz14_3
        try clear hcz14_4
        try clear hcz14_5
        try clear hcz14_6
        try clear hcz14_7
        try clear hcz14_8
        try clear hcz14_9
        try clear hcz19_0
        try clear hcz19_1
        try clear hcz19_2
        try clear hcz19_3
        try clear hcz19_4
        try clear hcz19_5
        try clear hcz19_6
        try clear hcz19_7
        try clear hcz19_8
        try clear hcz19_9
        try clear hcz21_0
        try clear hcz21_1
        try clear hcz21_2
        try clear hcz21_3
        try clear hcz21_4
        try clear hcz21_5
        try clear hcz21_6
        try clear hcz21_7
        try clear hcz21_8
        try clear hcz21_9
        try clear hcz30_0
        try clear hcz30_1
        try clear hcz30_2
        try clear hcz30_3
        try clear hcz30_4
        try clear hcz30_5
        try clear hcz30_6
        try clear hcz30_7
        try clear hcz30_8
        try clear hcz30_9
        try clear hcz32_0
        try clear hcz32_1
        try clear hcz32_2
        try clear hcz32_3
        try clear hcz32_4
        try clear hcz32_5
        try clear hcz32_6
        try clear hcz32_7
        try clear hcz32_8
        try clear hcz32_9
        try clear hcz34_0
        try clear hcz34_1
        try clear hcz34_2
        try clear hcz34_3
        try clear hcz34_4
        try clear hcz34_5
        try clear hcz34_6
        try clear hcz34_7
        try clear hcz34_8
        try clear hcz34_9
        try clear hcz36_0
        try clear hcz36_1
        try clear hcz36_2
        try clear hcz36_3
        try clear hcz36_4
        try clear hcz36_5
        try clear hcz36_6
        try clear hcz36_7
        try clear hcz36_8
        try clear hcz36_9
        try clear hcz38_0
        try clear hcz38_1
        try clear hcz38_2
        try clear hcz38_3
        try clear hcz38_4
        try clear hcz38_5
        try clear hcz38_6
        try clear hcz38_7
        try clear hcz38_8
        try clear hcz38_9
        try clear hcz41_0
        try clear hcz41_1
        try clear hcz41_2
        try clear hcz41_3
        try clear hcz41_4
        try clear hcz41_5
        try clear hcz41_6
        try clear hcz41_7
        try clear hcz41_8
        try clear hcz41_9
        try clear hcz45_0
        try clear hcz45_1
        try clear hcz45_2
        try clear hcz45_3
        try clear hcz45_4
        try clear hcz45_5
        try clear hcz45_6
        try clear hcz45_7
        try clear hcz45_8
        try clear hcz45_9
        try clear hcz47_0
        try clear hcz47_1
        try clear hcz47_2
        try clear hcz47_3
        try clear hcz47_4
        try clear hcz47_5
        try clear hcz47_6
        try clear hcz47_7
        try clear hcz47_8
        try clear hcz47_9
        try clear hcz49_0
        try clear hcz49_1
        try clear hcz49_2
        try clear hcz49_3
        try clear hcz49_4
        try clear hcz49_5
        try clear hcz49_6
        try clear hcz49_7
        try clear hcz49_8
        try clear hcz49_9
        try clear hcz51_0
        try clear hcz51_1
        try clear hcz51_2
        try clear hcz51_3
        try clear hcz51_4
        try clear hcz51_5
        try clear hcz51_6
        try clear hcz51_7
        try clear hcz51_8
        try clear hcz51_9
        try clear hfz14_0
        try clear hfz14_1
        try clear hfz14_2
        try clear hfz14_3
        try clear hfz14_4
        try clear hfz14_5
        try clear hfz14_6
        try clear hfz14_7
        try clear hfz14_8
        try clear hfz14_9
        try clear hfz19_0
        try clear hfz19_1
        try clear hfz19_2
        try clear hfz19_3
        try clear hfz19_4
        try clear hfz19_5
        try clear hfz19_6
        try clear hfz19_7
        try clear hfz19_8
        try clear hfz19_9
        try clear hfz21_0
        try clear hfz21_1
        try clear hfz21_2
        try clear hfz21_3
        try clear hfz21_4
        try clear hfz21_5
        try clear hfz21_6
        try clear hfz21_7
        try clear hfz21_8
        try clear hfz21_9
        try clear hfz30_0
        try clear hfz30_1
        try clear hfz30_2
        try clear hfz30_3
        try clear hfz30_4
        try clear hfz30_5
        try clear hfz30_6
        try clear hfz30_7
        try clear hfz30_8
        try clear hfz30_9
        try clear hfz32_0
        try clear hfz32_1
        try clear hfz32_2
        try clear hfz32_3
        try clear hfz32_4
        try clear hfz32_5
        try clear hfz32_6
        try clear hfz32_7
        try clear hfz32_8
        try clear hfz32_9
        try clear hfz34_0
        try clear hfz34_1
        try clear hfz34_2
        try clear hfz34_3
        try clear hfz34_4
        try clear hfz34_5
        try clear hfz34_6
        try clear hfz34_7
        try clear hfz34_8
        try clear hfz34_9
        try clear hfz36_0
        try clear hfz36_1
        try clear hfz36_2
        try clear hfz36_3
        try clear hfz36_4
        try clear hfz36_5
        try clear hfz36_6
        try clear hfz36_7
        try clear hfz36_8
        try clear hfz36_9
        try clear hfz38_0
        try clear hfz38_1
        try clear hfz38_2
        try clear hfz38_3
        try clear hfz38_4
        try clear hfz38_5
        try clear hfz38_6
        try clear hfz38_7
        try clear hfz38_8
        try clear hfz38_9
        try clear hfz41_0
        try clear hfz41_1
        try clear hfz41_2
        try clear hfz41_3
        try clear hfz41_4
        try clear hfz41_5
        try clear hfz41_6
        try clear hfz41_7
        try clear hfz41_8
        try clear hfz41_9
        try clear hfz45_0
        try clear hfz45_1
        try clear hfz45_2
        try clear hfz45_3
        try clear hfz45_4
        try clear hfz45_5
        try clear hfz45_6
        try clear hfz45_7
        try clear hfz45_8
        try clear hfz45_9
        try clear hfz47_0
        try clear hfz47_1
        try clear hfz47_2
        try clear hfz47_3
        try clear hfz47_4
        try clear hfz47_5
        try clear hfz47_6
        try clear hfz47_7
        try clear hfz47_8
        try clear hfz47_9
        try clear hfz49_0
        try clear hfz49_1
        try clear hfz49_2
        try clear hfz49_3
        try clear hfz49_4
        try clear hfz49_5
        try clear hfz49_6
        try clear hfz49_7
        try clear hfz49_8
        try clear hfz49_9
        try clear hfz51_0
        try clear hfz51_1
        try clear hfz51_2
        try clear hfz51_3
        try clear hfz51_4
        try clear hfz51_5
        try clear hfz51_6
        try clear hfz51_7
        try clear hfz51_8
        try clear hfz51_9
        try clear q13
        obtain ⟨kq, x57_9, rfl, HA, HJ9, BK176, HB⟩ := hcut
        cases kq with
        | zero => exact absurd HA.out (by simp [millwrightlaw04_CheckTells.j0])
        | succ kj9 =>
          have H := HA.out
          clear HA
          simp only [millwrightlaw04_CheckTells.j0] at H
          by_cases c53 : x57_9 = true
          · subst c53
            have H1 : (some false) = some true := by rw [if_pos rfl] at H; exact H
            clear H
            have H := H1
            clear H1
            exact absurd H (by simp)
          · replace c53 := Bool.eq_false_iff.mpr c53
            subst c53
            have H1 : (millwrightlaw04_CheckTells.l0 kj9 y178 t177 0) = some true := by rw [if_neg (show ¬ (false = true) by decide)] at H; exact H
            clear H
            have H := H1
            clear H1
            have H' := Aside0.mk H
            clear H
            go_wp2
            go_loopg [11] kj9 (fun kq v11 w' => ∃ (x11_2 : Int), v11 = .int .i64 x11_2 ∧ Aside0 (millwrightlaw04_CheckTells.l0 kq y178 t177 x11_2 = some true) ∧ Aside0 (kq ≤ kj9) ∧ Aside0 (w'.heap[gb176]? = some (.cells #[.int .i64 a0_0, .int .i64 a0_1, .int .i64 a0_2, .int .i64 a0_3, .int .i64 a0_4, .int .i64 a0_5, .int .i64 a0_6, .int .i64 a0_7, .int .i64 a0_8, .int .i64 a0_9] 23 (0, 0))) ∧ Aside0 (Below w.heap.size w w'))
            case atStart => exact ⟨(0), (by first | rfl | (simp; done) | (simp [*]; done)), H', ⟨Nat.le_refl _⟩, ⟨by (with_reducible repeat (first | refine blk_drewN ?_ _ | refine blk_drew ?_ | refine blk_alloc ?_ _)); exact BK176.out⟩, ⟨by repeat (first | (with_reducible first | exact HB.out | apply below_alloc | apply pw_below_drewN | apply below_drew1 | refine below_set ?_ GE176.out) | exact HB.out)⟩⟩
            case round =>
              clear H'
              try clear c1
              try clear q1
              try clear c2
              try clear p2
              try clear c3
              try clear c4
              try clear c5
              try clear c5b0
              try clear c5b1
              try clear c6
              try clear c6b0
              try clear c6b1
              try clear c13
              try clear q13
              try clear c14
              try clear c15
              try clear c16
              try clear c23
              try clear c23b0
              try clear c23b1
              try clear c24
              try clear c24b0
              try clear c24b1
              try clear c26
              try clear c26b0
              try clear c26b1
              try clear c27
              try clear c29
              try clear c29b0
              try clear c29b1
              try clear c40
              try clear c44
              try clear c44b0
              try clear c44b1
              try clear c53
              try clear hcz14_0
              try clear hcz14_1
              try clear hcz14_2
              try clear hcz14_3
              try clear hcz14_4
              try clear hcz14_5
              try clear hcz14_6
              try clear hcz14_7
              try clear hcz14_8
              try clear hcz14_9
              try clear hcz19_0
              try clear hcz19_1
              try clear hcz19_2
              try clear hcz19_3
              try clear hcz19_4
              try clear hcz19_5
              try clear hcz19_6
              try clear hcz19_7
              try clear hcz19_8
              try clear hcz19_9
              try clear hcz21_0
              try clear hcz21_1
              try clear hcz21_2
              try clear hcz21_3
              try clear hcz21_4
              try clear hcz21_5
              try clear hcz21_6
              try clear hcz21_7
              try clear hcz21_8
              try clear hcz21_9
              try clear hcz30_0
              try clear hcz30_1
              try clear hcz30_2
              try clear hcz30_3
              try clear hcz30_4
              try clear hcz30_5
              try clear hcz30_6
              try clear hcz30_7
              try clear hcz30_8
              try clear hcz30_9
              try clear hcz32_0
              try clear hcz32_1
              try clear hcz32_2
              try clear hcz32_3
              try clear hcz32_4
              try clear hcz32_5
              try clear hcz32_6
              try clear hcz32_7
              try clear hcz32_8
              try clear hcz32_9
              try clear hcz34_0
              try clear hcz34_1
              try clear hcz34_2
              try clear hcz34_3
              try clear hcz34_4
              try clear hcz34_5
              try clear hcz34_6
              try clear hcz34_7
              try clear hcz34_8
              try clear hcz34_9
              try clear hcz36_0
              try clear hcz36_1
              try clear hcz36_2
              try clear hcz36_3
              try clear hcz36_4
              try clear hcz36_5
              try clear hcz36_6
              try clear hcz36_7
              try clear hcz36_8
              try clear hcz36_9
              try clear hcz38_0
              try clear hcz38_1
              try clear hcz38_2
              try clear hcz38_3
              try clear hcz38_4
              try clear hcz38_5
              try clear hcz38_6
              try clear hcz38_7
              try clear hcz38_8
              try clear hcz38_9
              try clear hcz41_0
              try clear hcz41_1
              try clear hcz41_2
              try clear hcz41_3
              try clear hcz41_4
              try clear hcz41_5
              try clear hcz41_6
              try clear hcz41_7
              try clear hcz41_8
              try clear hcz41_9
              try clear hcz45_0
              try clear hcz45_1
              try clear hcz45_2
              try clear hcz45_3
              try clear hcz45_4
              try clear hcz45_5
              try clear hcz45_6
              try clear hcz45_7
              try clear hcz45_8
              try clear hcz45_9
              try clear hcz47_0
              try clear hcz47_1
              try clear hcz47_2
              try clear hcz47_3
              try clear hcz47_4
              try clear hcz47_5
              try clear hcz47_6
              try clear hcz47_7
              try clear hcz47_8
              try clear hcz47_9
              try clear hcz49_0
              try clear hcz49_1
              try clear hcz49_2
              try clear hcz49_3
              try clear hcz49_4
              try clear hcz49_5
              try clear hcz49_6
              try clear hcz49_7
              try clear hcz49_8
              try clear hcz49_9
              try clear hcz51_0
              try clear hcz51_1
              try clear hcz51_2
              try clear hcz51_3
              try clear hcz51_4
              try clear hcz51_5
              try clear hcz51_6
              try clear hcz51_7
              try clear hcz51_8
              try clear hcz51_9
              try clear hfz14_0
              try clear hfz14_1
              try clear hfz14_2
              try clear hfz14_3
              try clear hfz14_4
              try clear hfz14_5
              try clear hfz14_6
              try clear hfz14_7
              try clear hfz14_8
              try clear hfz14_9
              try clear hfz19_0
              try clear hfz19_1
              try clear hfz19_2
              try clear hfz19_3
              try clear hfz19_4
              try clear hfz19_5
              try clear hfz19_6
              try clear hfz19_7
              try clear hfz19_8
              try clear hfz19_9
              try clear hfz21_0
              try clear hfz21_1
              try clear hfz21_2
              try clear hfz21_3
              try clear hfz21_4
              try clear hfz21_5
              try clear hfz21_6
              try clear hfz21_7
              try clear hfz21_8
              try clear hfz21_9
              try clear hfz30_0
              try clear hfz30_1
              try clear hfz30_2
              try clear hfz30_3
              try clear hfz30_4
              try clear hfz30_5
              try clear hfz30_6
              try clear hfz30_7
              try clear hfz30_8
              try clear hfz30_9
              try clear hfz32_0
              try clear hfz32_1
              try clear hfz32_2
              try clear hfz32_3
              try clear hfz32_4
              try clear hfz32_5
              try clear hfz32_6
              try clear hfz32_7
              try clear hfz32_8
              try clear hfz32_9
              try clear hfz34_0
              try clear hfz34_1
              try clear hfz34_2
              try clear hfz34_3
              try clear hfz34_4
              try clear hfz34_5
              try clear hfz34_6
              try clear hfz34_7
              try clear hfz34_8
              try clear hfz34_9
              try clear hfz36_0
              try clear hfz36_1
              try clear hfz36_2
              try clear hfz36_3
              try clear hfz36_4
              try clear hfz36_5
              try clear hfz36_6
              try clear hfz36_7
              try clear hfz36_8
              try clear hfz36_9
              try clear hfz38_0
              try clear hfz38_1
              try clear hfz38_2
              try clear hfz38_3
              try clear hfz38_4
              try clear hfz38_5
              try clear hfz38_6
              try clear hfz38_7
              try clear hfz38_8
              try clear hfz38_9
              try clear hfz41_0
              try clear hfz41_1
              try clear hfz41_2
              try clear hfz41_3
              try clear hfz41_4
              try clear hfz41_5
              try clear hfz41_6
              try clear hfz41_7
              try clear hfz41_8
              try clear hfz41_9
              try clear hfz45_0
              try clear hfz45_1
              try clear hfz45_2
              try clear hfz45_3
              try clear hfz45_4
              try clear hfz45_5
              try clear hfz45_6
              try clear hfz45_7
              try clear hfz45_8
              try clear hfz45_9
              try clear hfz47_0
              try clear hfz47_1
              try clear hfz47_2
              try clear hfz47_3
              try clear hfz47_4
              try clear hfz47_5
              try clear hfz47_6
              try clear hfz47_7
              try clear hfz47_8
              try clear hfz47_9
              try clear hfz49_0
              try clear hfz49_1
              try clear hfz49_2
              try clear hfz49_3
              try clear hfz49_4
              try clear hfz49_5
              try clear hfz49_6
              try clear hfz49_7
              try clear hfz49_8
              try clear hfz49_9
              try clear hfz51_0
              try clear hfz51_1
              try clear hfz51_2
              try clear hfz51_3
              try clear hfz51_4
              try clear hfz51_5
              try clear hfz51_6
              try clear hfz51_7
              try clear hfz51_8
              try clear hfz51_9
              try clear p2
              try clear q1
              try clear q13
              obtain ⟨x11_2, rfl, HA, HK2, BK176, HB⟩ := hrel
              cases gk with
              | zero => exact absurd HA.out (by simp [millwrightlaw04_CheckTells.l0])
              | succ k2 =>
                have H := HA.out
                clear HA
                simp only [millwrightlaw04_CheckTells.l0] at H
                by_cases c54 : x11_2 < (y178.length : Int)
                · rw [if_pos c54] at H
                  have c54b0 : decide (x11_2 < (y178.length : Int)) = true := decide_eq_true c54
                  clear c54
                  by_cases c55 : 0 ≤ x11_2
                  · rw [if_pos c55] at H
                    have c55b0 : decide (0 ≤ x11_2) = true := decide_eq_true c55
                    clear c55
                    replace H := Option.bind_eq_some_iff.mp H
                    obtain ⟨t194, A560, H⟩ := H
                    replace H : ((check_Task.f k2 ((rd_T39 y178 x11_2).f0) ((rd_T39 y178 x11_2).f1)).bind fun t196 => (if t196 = 0 then (if t194 = true then ((check_Task.f k2 ((rd_T39 y178 x11_2).f0) ((rd_T39 y178 x11_2).f1)).bind fun t198 => (if t198 = 3 then (some false) else (millwrightlaw04_CheckTells.l0 k2 y178 t177 (wrap64 (x11_2 + 1))))) else (some false)) else (if t194 = true then (some false) else ((check_Task.f k2 ((rd_T39 y178 x11_2).f0) ((rd_T39 y178 x11_2).f1)).bind fun t200 => (if t200 = 3 then (millwrightlaw04_CheckTells.l0 k2 y178 t177 (wrap64 (x11_2 + 1))) else (some false)))))) = some true := H
                    have A56 := Aside0.mk A560
                    clear A560
                    replace H := Option.bind_eq_some_iff.mp H
                    obtain ⟨t196, A570, H⟩ := H
                    replace H : (if t196 = 0 then (if t194 = true then ((check_Task.f k2 ((rd_T39 y178 x11_2).f0) ((rd_T39 y178 x11_2).f1)).bind fun t198 => (if t198 = 3 then (some false) else (millwrightlaw04_CheckTells.l0 k2 y178 t177 (wrap64 (x11_2 + 1))))) else (some false)) else (if t194 = true then (some false) else ((check_Task.f k2 ((rd_T39 y178 x11_2).f0) ((rd_T39 y178 x11_2).f1)).bind fun t200 => (if t200 = 3 then (millwrightlaw04_CheckTells.l0 k2 y178 t177 (wrap64 (x11_2 + 1))) else (some false))))) = some true := H
                    have A57 := Aside0.mk A570
                    clear A570
                    by_cases c58 : t196 = 0
                    · rw [if_pos c58] at H
                      have c58b0 : (t196 == 0) = true := beq_iff_eq.mpr c58
                      have c58b1 : (t196 != 0) = false := bne_eq_false_iff_eq.mpr c58
                      clear c58
                      by_cases c59 : t194 = true
                      · subst c59
                        have H1 : ((check_Task.f k2 ((rd_T39 y178 x11_2).f0) ((rd_T39 y178 x11_2).f1)).bind fun t198 => (if t198 = 3 then (some false) else (millwrightlaw04_CheckTells.l0 k2 y178 t177 (wrap64 (x11_2 + 1))))) = some true := by rw [if_pos rfl] at H; exact H
                        clear H
                        have H := H1
                        clear H1
                        replace H := Option.bind_eq_some_iff.mp H
                        obtain ⟨t198, A600, H⟩ := H
                        replace H : (if t198 = 3 then (some false) else (millwrightlaw04_CheckTells.l0 k2 y178 t177 (wrap64 (x11_2 + 1)))) = some true := H
                        have A60 := Aside0.mk A600
                        clear A600
                        have hsame_ := Option.some.inj (A57.out.symm.trans A60.out)
                        subst hsame_
                        by_cases c61 : t196 = 3
                        · rw [if_pos c61] at H
                          have c61b0 : (t196 == 3) = true := beq_iff_eq.mpr c61
                          have c61b1 : (t196 != 3) = false := bne_eq_false_iff_eq.mpr c61
                          clear c61
                          exact absurd H (by simp)
                        · rw [if_neg c61] at H
                          have c61b0 : (t196 == 3) = false := beq_eq_false_iff_ne.mpr c61
                          have c61b1 : (t196 != 3) = true := bne_iff_ne.mpr c61
                          have H' := Aside0.mk H
                          clear H
                          have p193 : 0 ≤ (x11_2 : Int) := of_decide_eq_true (by first | (with_reducible assumption) | assumption)
                          have q193 : x11_2 < (y178.length : Int) := of_decide_eq_true (by first | (with_reducible assumption) | assumption)
                          obtain ⟨ad193, e193, hx193_0, hx193_1⟩ := at_T39 HR181.out x11_2 p193 q193
                          cases e193
                          replace hx193_0 := (HB.out.cell (World.block_lt_of_cell? w _ hx193_0)).trans hx193_0
                          replace hx193_1 := (HB.out.cell (World.block_lt_of_cell? w _ hx193_1)).trans hx193_1
                          replace p193 := eq_true p193
                          replace q193 := eq_true q193
                          go_wp2_with (first | ((with_reducible refine gate_callee (f := 18) rfl ?_); refine goesL_ (some 68) rfl rfl Try.func18 (by kernel_rfl) rfl #[.agg #[.int .i64 ((rd_T39 y178 x11_2).f0), .int .i64 ((rd_T39 y178 x11_2).f1)]] rfl (by (try simp only [List.map_toArray, List.map_cons, List.map_nil]); first | done | rfl | (simp only [List.length_drop, List.length_take]; rfl)) ?_; (with_reducible refine (millwrightref04_Task.calls ((rd_T39 y178 x11_2).f0) ((rd_T39 y178 x11_2).f1) true _ A56.out).mono ?_); rintro e w62 ⟨rfl, hb⟩; refine ⟨_, rfl, ?_⟩; have n0_ := Aside0.mk (blk_below (g := gb176) (o := .cells #[.int .i64 a0_0, .int .i64 a0_1, .int .i64 a0_2, .int .i64 a0_3, .int .i64 a0_4, .int .i64 a0_5, .int .i64 a0_6, .int .i64 a0_7, .int .i64 a0_8, .int .i64 a0_9] 23 (0, 0)) (by (with_reducible repeat (first | refine blk_drewN ?_ _ | refine blk_drew ?_ | refine blk_alloc ?_ _)); exact BK176.out) hb); have n1_ := Aside0.mk (below_step (by repeat (first | (with_reducible first | exact HB.out | apply below_alloc | apply pw_below_drewN | apply below_drew1 | refine below_set ?_ GE176.out) | exact HB.out)) hb); clear BK176; clear HB; have BK176 := n0_; have HB := n1_; clear n0_ n1_; (try clear hb); (try clear hb2); (try clear hk); (try clear hi); have p195 : 0 ≤ (x11_2 : Int) := of_decide_eq_true (by first | (with_reducible assumption) | assumption); have q195 : x11_2 < (y178.length : Int) := of_decide_eq_true (by first | (with_reducible assumption) | assumption); obtain ⟨ad195, e195, hx195_0, hx195_1⟩ := at_T39 HR181.out x11_2 p195 q195; obtain rfl : ad193 = ad195 := (by injection e195); replace hx195_0 := (HB.out.cell (World.block_lt_of_cell? w _ hx195_0)).trans hx195_0; replace hx195_1 := (HB.out.cell (World.block_lt_of_cell? w _ hx195_1)).trans hx195_1; replace p195 := eq_true p195; replace q195 := eq_true q195) | ((with_reducible refine gate_callee (f := 19) rfl ?_); refine goesL_ (some 73) rfl rfl Try.func19 (by kernel_rfl) rfl #[.agg #[.int .i64 ((rd_T39 y178 x11_2).f0), .int .i64 ((rd_T39 y178 x11_2).f1)]] rfl (by (try simp only [List.map_toArray, List.map_cons, List.map_nil]); first | done | rfl | (simp only [List.length_drop, List.length_take]; rfl)) ?_; (with_reducible refine (check_Task.calls k2 ((rd_T39 y178 x11_2).f0) ((rd_T39 y178 x11_2).f1) t196 _ A57.out).mono ?_); rintro e w63 ⟨rfl, hb⟩; refine ⟨_, rfl, ?_⟩; have n0_ := Aside0.mk (blk_below (g := gb176) (o := .cells #[.int .i64 a0_0, .int .i64 a0_1, .int .i64 a0_2, .int .i64 a0_3, .int .i64 a0_4, .int .i64 a0_5, .int .i64 a0_6, .int .i64 a0_7, .int .i64 a0_8, .int .i64 a0_9] 23 (0, 0)) (by (with_reducible repeat (first | refine blk_drewN ?_ _ | refine blk_drew ?_ | refine blk_alloc ?_ _)); exact BK176.out) hb); have n1_ := Aside0.mk (below_step (by repeat (first | (with_reducible first | exact HB.out | apply below_alloc | apply pw_below_drewN | apply below_drew1 | refine below_set ?_ GE176.out) | exact HB.out)) hb); clear BK176; clear HB; have BK176 := n0_; have HB := n1_; clear n0_ n1_; (try clear hb); (try clear hb2); (try clear hk); (try clear hi); have p197 : 0 ≤ (x11_2 : Int) := of_decide_eq_true (by first | (with_reducible assumption) | assumption); have q197 : x11_2 < (y178.length : Int) := of_decide_eq_true (by first | (with_reducible assumption) | assumption); obtain ⟨ad197, e197, hx197_0, hx197_1⟩ := at_T39 HR181.out x11_2 p197 q197; obtain rfl : ad193 = ad197 := (by injection e197); replace hx197_0 := (HB.out.cell (World.block_lt_of_cell? w _ hx197_0)).trans hx197_0; replace hx197_1 := (HB.out.cell (World.block_lt_of_cell? w _ hx197_1)).trans hx197_1; replace p197 := eq_true p197; replace q197 := eq_true q197) | (go_at_call 19; (with_reducible refine (check_Task.calls k2 ((rd_T39 y178 x11_2).f0) ((rd_T39 y178 x11_2).f1) t196 _ A60.out).mono ?_); rintro e w64 ⟨rfl, hb⟩; have n0_ := Aside0.mk (blk_below (g := gb176) (o := .cells #[.int .i64 a0_0, .int .i64 a0_1, .int .i64 a0_2, .int .i64 a0_3, .int .i64 a0_4, .int .i64 a0_5, .int .i64 a0_6, .int .i64 a0_7, .int .i64 a0_8, .int .i64 a0_9] 23 (0, 0)) (by (with_reducible repeat (first | refine blk_drewN ?_ _ | refine blk_drew ?_ | refine blk_alloc ?_ _)); exact BK176.out) hb); have n1_ := Aside0.mk (below_step (by repeat (first | (with_reducible first | exact HB.out | apply below_alloc | apply pw_below_drewN | apply below_drew1 | refine below_set ?_ GE176.out) | exact HB.out)) hb); clear BK176; clear HB; have BK176 := n0_; have HB := n1_; clear n0_ n1_; (try clear hb); (try clear hb2); (try clear hk); (try clear hi)))
                          go_roundg k2
                          case measure => have := HJ9.out; have := HK2.out; omega
                          case rel => exact ⟨(wrap64 (x11_2 + 1)), (by first | rfl | (simp; done) | (simp [*]; done)), H', ⟨by have := HJ9.out; have := HK2.out; omega⟩, ⟨by (with_reducible repeat (first | refine blk_drewN ?_ _ | refine blk_drew ?_ | refine blk_alloc ?_ _)); exact BK176.out⟩, ⟨by repeat (first | (with_reducible first | exact HB.out | apply below_alloc | apply pw_below_drewN | apply below_drew1 | refine below_set ?_ GE176.out) | exact HB.out)⟩⟩
                      · replace c59 := Bool.eq_false_iff.mpr c59
                        subst c59
                        have H1 : (some false) = some true := by rw [if_neg (show ¬ (false = true) by decide)] at H; exact H
                        clear H
                        have H := H1
                        clear H1
                        exact absurd H (by simp)
                    · rw [if_neg c58] at H
                      have c58b0 : (t196 == 0) = false := beq_eq_false_iff_ne.mpr c58
                      have c58b1 : (t196 != 0) = true := bne_iff_ne.mpr c58
                      by_cases c65 : t194 = true
                      · subst c65
                        have H1 : (some false) = some true := by rw [if_pos rfl] at H; exact H
                        clear H
                        have H := H1
                        clear H1
                        exact absurd H (by simp)
                      · replace c65 := Bool.eq_false_iff.mpr c65
                        subst c65
                        have H1 : ((check_Task.f k2 ((rd_T39 y178 x11_2).f0) ((rd_T39 y178 x11_2).f1)).bind fun t200 => (if t200 = 3 then (millwrightlaw04_CheckTells.l0 k2 y178 t177 (wrap64 (x11_2 + 1))) else (some false))) = some true := by rw [if_neg (show ¬ (false = true) by decide)] at H; exact H
                        clear H
                        have H := H1
                        clear H1
                        replace H := Option.bind_eq_some_iff.mp H
                        obtain ⟨t200, A660, H⟩ := H
                        replace H : (if t200 = 3 then (millwrightlaw04_CheckTells.l0 k2 y178 t177 (wrap64 (x11_2 + 1))) else (some false)) = some true := H
                        have A66 := Aside0.mk A660
                        clear A660
                        have hsame_ := Option.some.inj (A57.out.symm.trans A66.out)
                        subst hsame_
                        by_cases c67 : t196 = 3
                        · rw [if_pos c67] at H
                          have c67b0 : (t196 == 3) = true := beq_iff_eq.mpr c67
                          have c67b1 : (t196 != 3) = false := bne_eq_false_iff_eq.mpr c67
                          clear c67
                          have H' := Aside0.mk H
                          clear H
                          have p193 : 0 ≤ (x11_2 : Int) := of_decide_eq_true (by first | (with_reducible assumption) | assumption)
                          have q193 : x11_2 < (y178.length : Int) := of_decide_eq_true (by first | (with_reducible assumption) | assumption)
                          obtain ⟨ad193, e193, hx193_0, hx193_1⟩ := at_T39 HR181.out x11_2 p193 q193
                          cases e193
                          replace hx193_0 := (HB.out.cell (World.block_lt_of_cell? w _ hx193_0)).trans hx193_0
                          replace hx193_1 := (HB.out.cell (World.block_lt_of_cell? w _ hx193_1)).trans hx193_1
                          replace p193 := eq_true p193
                          replace q193 := eq_true q193
                          go_wp2_with (first | ((with_reducible refine gate_callee (f := 18) rfl ?_); refine goesL_ (some 68) rfl rfl Try.func18 (by kernel_rfl) rfl #[.agg #[.int .i64 ((rd_T39 y178 x11_2).f0), .int .i64 ((rd_T39 y178 x11_2).f1)]] rfl (by (try simp only [List.map_toArray, List.map_cons, List.map_nil]); first | done | rfl | (simp only [List.length_drop, List.length_take]; rfl)) ?_; (with_reducible refine (millwrightref04_Task.calls ((rd_T39 y178 x11_2).f0) ((rd_T39 y178 x11_2).f1) false _ A56.out).mono ?_); rintro e w68 ⟨rfl, hb⟩; refine ⟨_, rfl, ?_⟩; have n0_ := Aside0.mk (blk_below (g := gb176) (o := .cells #[.int .i64 a0_0, .int .i64 a0_1, .int .i64 a0_2, .int .i64 a0_3, .int .i64 a0_4, .int .i64 a0_5, .int .i64 a0_6, .int .i64 a0_7, .int .i64 a0_8, .int .i64 a0_9] 23 (0, 0)) (by (with_reducible repeat (first | refine blk_drewN ?_ _ | refine blk_drew ?_ | refine blk_alloc ?_ _)); exact BK176.out) hb); have n1_ := Aside0.mk (below_step (by repeat (first | (with_reducible first | exact HB.out | apply below_alloc | apply pw_below_drewN | apply below_drew1 | refine below_set ?_ GE176.out) | exact HB.out)) hb); clear BK176; clear HB; have BK176 := n0_; have HB := n1_; clear n0_ n1_; (try clear hb); (try clear hb2); (try clear hk); (try clear hi); have p195 : 0 ≤ (x11_2 : Int) := of_decide_eq_true (by first | (with_reducible assumption) | assumption); have q195 : x11_2 < (y178.length : Int) := of_decide_eq_true (by first | (with_reducible assumption) | assumption); obtain ⟨ad195, e195, hx195_0, hx195_1⟩ := at_T39 HR181.out x11_2 p195 q195; obtain rfl : ad193 = ad195 := (by injection e195); replace hx195_0 := (HB.out.cell (World.block_lt_of_cell? w _ hx195_0)).trans hx195_0; replace hx195_1 := (HB.out.cell (World.block_lt_of_cell? w _ hx195_1)).trans hx195_1; replace p195 := eq_true p195; replace q195 := eq_true q195) | ((with_reducible refine gate_callee (f := 19) rfl ?_); refine goesL_ (some 73) rfl rfl Try.func19 (by kernel_rfl) rfl #[.agg #[.int .i64 ((rd_T39 y178 x11_2).f0), .int .i64 ((rd_T39 y178 x11_2).f1)]] rfl (by (try simp only [List.map_toArray, List.map_cons, List.map_nil]); first | done | rfl | (simp only [List.length_drop, List.length_take]; rfl)) ?_; (with_reducible refine (check_Task.calls k2 ((rd_T39 y178 x11_2).f0) ((rd_T39 y178 x11_2).f1) t196 _ A57.out).mono ?_); rintro e w69 ⟨rfl, hb⟩; refine ⟨_, rfl, ?_⟩; have n0_ := Aside0.mk (blk_below (g := gb176) (o := .cells #[.int .i64 a0_0, .int .i64 a0_1, .int .i64 a0_2, .int .i64 a0_3, .int .i64 a0_4, .int .i64 a0_5, .int .i64 a0_6, .int .i64 a0_7, .int .i64 a0_8, .int .i64 a0_9] 23 (0, 0)) (by (with_reducible repeat (first | refine blk_drewN ?_ _ | refine blk_drew ?_ | refine blk_alloc ?_ _)); exact BK176.out) hb); have n1_ := Aside0.mk (below_step (by repeat (first | (with_reducible first | exact HB.out | apply below_alloc | apply pw_below_drewN | apply below_drew1 | refine below_set ?_ GE176.out) | exact HB.out)) hb); clear BK176; clear HB; have BK176 := n0_; have HB := n1_; clear n0_ n1_; (try clear hb); (try clear hb2); (try clear hk); (try clear hi); have p199 : 0 ≤ (x11_2 : Int) := of_decide_eq_true (by first | (with_reducible assumption) | assumption); have q199 : x11_2 < (y178.length : Int) := of_decide_eq_true (by first | (with_reducible assumption) | assumption); obtain ⟨ad199, e199, hx199_0, hx199_1⟩ := at_T39 HR181.out x11_2 p199 q199; obtain rfl : ad193 = ad199 := (by injection e199); replace hx199_0 := (HB.out.cell (World.block_lt_of_cell? w _ hx199_0)).trans hx199_0; replace hx199_1 := (HB.out.cell (World.block_lt_of_cell? w _ hx199_1)).trans hx199_1; replace p199 := eq_true p199; replace q199 := eq_true q199) | (go_at_call 19; (with_reducible refine (check_Task.calls k2 ((rd_T39 y178 x11_2).f0) ((rd_T39 y178 x11_2).f1) t196 _ A66.out).mono ?_); rintro e w70 ⟨rfl, hb⟩; have n0_ := Aside0.mk (blk_below (g := gb176) (o := .cells #[.int .i64 a0_0, .int .i64 a0_1, .int .i64 a0_2, .int .i64 a0_3, .int .i64 a0_4, .int .i64 a0_5, .int .i64 a0_6, .int .i64 a0_7, .int .i64 a0_8, .int .i64 a0_9] 23 (0, 0)) (by (with_reducible repeat (first | refine blk_drewN ?_ _ | refine blk_drew ?_ | refine blk_alloc ?_ _)); exact BK176.out) hb); have n1_ := Aside0.mk (below_step (by repeat (first | (with_reducible first | exact HB.out | apply below_alloc | apply pw_below_drewN | apply below_drew1 | refine below_set ?_ GE176.out) | exact HB.out)) hb); clear BK176; clear HB; have BK176 := n0_; have HB := n1_; clear n0_ n1_; (try clear hb); (try clear hb2); (try clear hk); (try clear hi)))
                          go_roundg k2
                          case measure => have := HJ9.out; have := HK2.out; omega
                          case rel => exact ⟨(wrap64 (x11_2 + 1)), (by first | rfl | (simp; done) | (simp [*]; done)), H', ⟨by have := HJ9.out; have := HK2.out; omega⟩, ⟨by (with_reducible repeat (first | refine blk_drewN ?_ _ | refine blk_drew ?_ | refine blk_alloc ?_ _)); exact BK176.out⟩, ⟨by repeat (first | (with_reducible first | exact HB.out | apply below_alloc | apply pw_below_drewN | apply below_drew1 | refine below_set ?_ GE176.out) | exact HB.out)⟩⟩
                        · rw [if_neg c67] at H
                          have c67b0 : (t196 == 3) = false := beq_eq_false_iff_ne.mpr c67
                          have c67b1 : (t196 != 3) = true := bne_iff_ne.mpr c67
                          exact absurd H (by simp)
                  · rw [if_neg c55] at H
                    exact absurd H (by simp)
                · rw [if_neg c54] at H
                  have c54b0 : decide (x11_2 < (y178.length : Int)) = false := decide_eq_false c54
                  clear c54
                  have HT_ := Option.some.inj H
                  clear H
                  go_wp2
                  go_ret
                  exact ⟨by first | rfl | (simp [errW_none, errW_some] <;> rfl) | (simp only [← hji4]; first | rfl | (simp [errW_none, errW_some] <;> rfl)) | (simp [*, errW_none, errW_some] <;> rfl), by repeat (first | (with_reducible first | exact HB.out | apply below_alloc | apply pw_below_drewN | apply below_drew1 | refine below_set ?_ GE176.out) | exact HB.out)⟩
    · rw [if_neg c6] at H
      exact absurd H (by simp)
  · rw [if_neg c5] at H
    exact absurd H (by simp)

end Go.Proofs.Ytkldfjlbgmppfaa.MCheckTells
