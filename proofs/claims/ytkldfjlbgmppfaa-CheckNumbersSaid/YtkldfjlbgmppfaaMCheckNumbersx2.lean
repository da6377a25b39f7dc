-- Written by a program of this session out of Lean's own print of the program. Not trusted: Lean checks it.
import Derived.Test.YtkldfjlbgmppfaaMCheckNumbersx0
import Derived.Test.YtkldfjlbgmppfaaMCheckNumbersx1
namespace Go.Proofs.Ytkldfjlbgmppfaa.MCheckNumbers
open Go.RowKit Go.Proofs.YtkldfjlbgmppfaaW.PrintWords Go.Proofs.YtkldfjlbgmppfaaW.PrintLast Go.Proofs.YtkldfjlbgmppfaaW.PrintMore
attribute [local go_sem] max2_int min2_int max_two min_two max_three min_three max_four min_four   -- for this text's walks alone
set_option linter.unusedVariables false
set_option linter.unusedSimpArgs false

/-! ### millwrightlaw04_CheckNumbers: function 4 -/
mutual
def millwrightlaw04_CheckNumbers.j0 : Nat → Int → Bool → Int → Int → Int → Int → Int → Int → Int → Int → Int → Int → Int → Int → Option (Bool)
  | 0, _, _, _, _, _, _, _, _, _, _, _, _, _, _ => none
  | k + 1, x1, x5, x7, x8, x182000, x182001, x182002, x182003, x182004, x182005, x182006, x182007, x182008, x182009 => if x1 < x7 then (millwrightlaw04_CheckNumbers.j1 k x5 0 true x182000 x182001 x182002 x182003 x182004 x182005 x182006 x182007 x182008 x182009) else (millwrightlaw04_CheckNumbers.j1 k x5 0 (decide (x1 > x8)) x182000 x182001 x182002 x182003 x182004 x182005 x182006 x182007 x182008 x182009)
def millwrightlaw04_CheckNumbers.j1 : Nat → Bool → Int → Bool → Int → Int → Int → Int → Int → Int → Int → Int → Int → Int → Option (Bool)
  | 0, _, _, _, _, _, _, _, _, _, _, _, _, _ => none
  | k + 1, x5, x9, x65, x182000, x182001, x182002, x182003, x182004, x182005, x182006, x182007, x182008, x182009 => if x65 = true then ((check_File.f k x182000 x182001 x182002 x182003 x182004 x182005 x182006 x182007 x182008 x182009 ([] : List (S39)) ([] : List (S30))).bind fun bt182 => (if x5 = true then ((check_Config.f k x182000 x182001 x182002 x182003 x182004 x182005 x182006 x182007 x182008 x182009).bind fun t184 => (if t184 = 3 then (if bt182.2 = 3 then (if bt182.1 = (-1) then (some false) else (if bt182.1 = 0 then (some true) else (some false))) else (some false)) else (some false))) else (some false))) else ((check_File.f k x182000 x182001 x182002 x182003 x182004 x182005 x182006 x182007 x182008 x182009 ([] : List (S39)) ([] : List (S30))).bind fun bt185 => (if x5 = true then ((check_Config.f k x182000 x182001 x182002 x182003 x182004 x182005 x182006 x182007 x182008 x182009).bind fun t187 => (if t187 = x9 then (if bt185.2 = x9 then (if bt185.1 = (-1) then (if x9 = 0 then (if bt185.1 = 0 then (some false) else (some true)) else (some false)) else (if x9 = 0 then (some false) else (if bt185.1 = 0 then (some true) else (some false)))) else (some false)) else (some false))) else (some false)))
end
def millwrightlaw04_CheckNumbers.f (k : Nat) (a0 : Int) (a1 : Int) : Option (Bool) := (millwrightlaw04_shown.f k).bind fun t170 => ((millwrightlaw04_good.f).bind fun bt171 => (if (Int.tmod (Go.bits .and .i64 a0 65535) 10) = 0 then (millwrightlaw04_CheckNumbers.j0 k a1 t170 1 1048576 a1 bt171.2.1 bt171.2.2.1 bt171.2.2.2.1 bt171.2.2.2.2.1 bt171.2.2.2.2.2.1 bt171.2.2.2.2.2.2.1 bt171.2.2.2.2.2.2.2.1 bt171.2.2.2.2.2.2.2.2.1 bt171.2.2.2.2.2.2.2.2.2) else (if (Int.tmod (Go.bits .and .i64 a0 65535) 10) = 1 then (millwrightlaw04_CheckNumbers.j0 k a1 t170 1 16 bt171.1 a1 bt171.2.2.1 bt171.2.2.2.1 bt171.2.2.2.2.1 bt171.2.2.2.2.2.1 bt171.2.2.2.2.2.2.1 bt171.2.2.2.2.2.2.2.1 bt171.2.2.2.2.2.2.2.2.1 bt171.2.2.2.2.2.2.2.2.2) else (if (Int.tmod (Go.bits .and .i64 a0 65535) 10) = 2 then (millwrightlaw04_CheckNumbers.j0 k a1 t170 1 1048576 bt171.1 bt171.2.1 a1 bt171.2.2.2.1 bt171.2.2.2.2.1 bt171.2.2.2.2.2.1 bt171.2.2.2.2.2.2.1 bt171.2.2.2.2.2.2.2.1 bt171.2.2.2.2.2.2.2.2.1 bt171.2.2.2.2.2.2.2.2.2) else (if (Int.tmod (Go.bits .and .i64 a0 65535) 10) = 3 then (millwrightlaw04_CheckNumbers.j0 k a1 t170 0 1048576 bt171.1 bt171.2.1 bt171.2.2.1 a1 bt171.2.2.2.2.1 bt171.2.2.2.2.2.1 bt171.2.2.2.2.2.2.1 bt171.2.2.2.2.2.2.2.1 bt171.2.2.2.2.2.2.2.2.1 bt171.2.2.2.2.2.2.2.2.2) else (if (Int.tmod (Go.bits .and .i64 a0 65535) 10) = 4 then (millwrightlaw04_CheckNumbers.j0 k a1 t170 1 1048576 bt171.1 bt171.2.1 bt171.2.2.1 bt171.2.2.2.1 a1 bt171.2.2.2.2.2.1 bt171.2.2.2.2.2.2.1 bt171.2.2.2.2.2.2.2.1 bt171.2.2.2.2.2.2.2.2.1 bt171.2.2.2.2.2.2.2.2.2) else (if (Int.tmod (Go.bits .and .i64 a0 65535) 10) = 5 then (millwrightlaw04_CheckNumbers.j0 k a1 t170 0 1048576 bt171.1 bt171.2.1 bt171.2.2.1 bt171.2.2.2.1 bt171.2.2.2.2.1 a1 bt171.2.2.2.2.2.2.1 bt171.2.2.2.2.2.2.2.1 bt171.2.2.2.2.2.2.2.2.1 bt171.2.2.2.2.2.2.2.2.2) else (if (Int.tmod (Go.bits .and .i64 a0 65535) 10) = 6 then (millwrightlaw04_CheckNumbers.j0 k a1 t170 1 1048576 bt171.1 bt171.2.1 bt171.2.2.1 bt171.2.2.2.1 bt171.2.2.2.2.1 bt171.2.2.2.2.2.1 a1 bt171.2.2.2.2.2.2.2.1 bt171.2.2.2.2.2.2.2.2.1 bt171.2.2.2.2.2.2.2.2.2) else (if (Int.tmod (Go.bits .and .i64 a0 65535) 10) = 7 then (millwrightlaw04_CheckNumbers.j0 k a1 t170 1 1048576 bt171.1 bt171.2.1 bt171.2.2.1 bt171.2.2.2.1 bt171.2.2.2.2.1 bt171.2.2.2.2.2.1 bt171.2.2.2.2.2.2.1 a1 bt171.2.2.2.2.2.2.2.2.1 bt171.2.2.2.2.2.2.2.2.2) else (if (Int.tmod (Go.bits .and .i64 a0 65535) 10) = 8 then (millwrightlaw04_CheckNumbers.j0 k a1 t170 1 1048576 bt171.1 bt171.2.1 bt171.2.2.1 bt171.2.2.2.1 bt171.2.2.2.2.1 bt171.2.2.2.2.2.1 bt171.2.2.2.2.2.2.1 bt171.2.2.2.2.2.2.2.1 a1 bt171.2.2.2.2.2.2.2.2.2) else (if (Int.tmod (Go.bits .and .i64 a0 65535) 10) = 9 then (millwrightlaw04_CheckNumbers.j0 k a1 t170 1 1048576 bt171.1 bt171.2.1 bt171.2.2.1 bt171.2.2.2.1 bt171.2.2.2.2.1 bt171.2.2.2.2.2.1 bt171.2.2.2.2.2.2.1 bt171.2.2.2.2.2.2.2.1 bt171.2.2.2.2.2.2.2.2.1 a1) else (millwrightlaw04_CheckNumbers.j0 k a1 t170 1 1048576 bt171.1 bt171.2.1 bt171.2.2.1 bt171.2.2.2.1 bt171.2.2.2.2.1 bt171.2.2.2.2.2.1 bt171.2.2.2.2.2.2.1 bt171.2.2.2.2.2.2.2.1 bt171.2.2.2.2.2.2.2.2.1 bt171.2.2.2.2.2.2.2.2.2))))))))))))
theorem millwrightlaw04_CheckNumbers.mono_l : ∀ k, (∀ y0 y1 y2 y3 y4 y5 y6 y7 y8 y9 y10 y11 y12 y13, LeO (millwrightlaw04_CheckNumbers.j0 k y0 y1 y2 y3 y4 y5 y6 y7 y8 y9 y10 y11 y12 y13) (millwrightlaw04_CheckNumbers.j0 (k + 1) y0 y1 y2 y3 y4 y5 y6 y7 y8 y9 y10 y11 y12 y13)) ∧ (∀ y0 y1 y2 y3 y4 y5 y6 y7 y8 y9 y10 y11 y12, LeO (millwrightlaw04_CheckNumbers.j1 k y0 y1 y2 y3 y4 y5 y6 y7 y8 y9 y10 y11 y12) (millwrightlaw04_CheckNumbers.j1 (k + 1) y0 y1 y2 y3 y4 y5 y6 y7 y8 y9 y10 y11 y12))
  | 0 => ⟨fun _ _ _ _ _ _ _ _ _ _ _ _ _ _ r h => by simp [millwrightlaw04_CheckNumbers.j0] at h, fun _ _ _ _ _ _ _ _ _ _ _ _ _ r h => by simp [millwrightlaw04_CheckNumbers.j1] at h⟩
  | k + 1 => by
    obtain ⟨ih0, ih1⟩ := millwrightlaw04_CheckNumbers.mono_l k
    refine ⟨?_, ?_⟩
    · intro y0 y1 y2 y3 y4 y5 y6 y7 y8 y9 y10 y11 y12 y13
      unfold millwrightlaw04_CheckNumbers.j0
      repeat' first
      | (with_reducible exact ih0 _ _ _ _ _ _ _ _ _ _ _ _ _ _)
      | (with_reducible exact ih1 _ _ _ _ _ _ _ _ _ _ _ _ _)
      | (with_reducible exact check_Config.mono _ _ _ _ _ _ _ _ _ _ _)
      | (with_reducible exact check_File.mono _ _ _ _ _ _ _ _ _ _ _ _ _)
      | (with_reducible exact millwrightlaw04_shown.mono _)
      | (with_reducible exact LeO.refl _)
      | (with_reducible exact LeO.none _)
      | (with_reducible refine LeO.ite ?_ ?_)
      | (with_reducible refine LeO.bind ?_ (fun _ => ?_))
      | exact ih0 _ _ _ _ _ _ _ _ _ _ _ _ _ _
      | exact ih1 _ _ _ _ _ _ _ _ _ _ _ _ _
      | exact check_Config.mono _ _ _ _ _ _ _ _ _ _ _
      | exact check_File.mono _ _ _ _ _ _ _ _ _ _ _ _ _
      | exact millwrightlaw04_shown.mono _
      | exact LeO.none _
      | refine LeO.ite ?_ ?_
      | refine LeO.bind ?_ (fun _ => ?_)
    · intro y0 y1 y2 y3 y4 y5 y6 y7 y8 y9 y10 y11 y12
      unfold millwrightlaw04_CheckNumbers.j1
      repeat' first
      | (with_reducible exact ih0 _ _ _ _ _ _ _ _ _ _ _ _ _ _)
      | (with_reducible exact ih1 _ _ _ _ _ _ _ _ _ _ _ _ _)
      | (with_reducible exact check_Config.mono _ _ _ _ _ _ _ _ _ _ _)
      | (with_reducible exact check_File.mono _ _ _ _ _ _ _ _ _ _ _ _ _)
      | (with_reducible exact millwrightlaw04_shown.mono _)
      | (with_reducible exact LeO.refl _)
      | (with_reducible exact LeO.none _)
      | (with_reducible refine LeO.ite ?_ ?_)
      | (with_reducible refine LeO.bind ?_ (fun _ => ?_))
      | exact ih0 _ _ _ _ _ _ _ _ _ _ _ _ _ _
      | exact ih1 _ _ _ _ _ _ _ _ _ _ _ _ _
      | exact check_Config.mono _ _ _ _ _ _ _ _ _ _ _
      | exact check_File.mono _ _ _ _ _ _ _ _ _ _ _ _ _
      | exact millwrightlaw04_shown.mono _
      | exact LeO.none _
      | refine LeO.ite ?_ ?_
      | refine LeO.bind ?_ (fun _ => ?_)
theorem millwrightlaw04_CheckNumbers.mono : ∀ a0 a1 k, LeO (millwrightlaw04_CheckNumbers.f k a0 a1) (millwrightlaw04_CheckNumbers.f (k + 1) a0 a1) := by
  intro a0 a1 k
  obtain ⟨ih0, ih1⟩ := millwrightlaw04_CheckNumbers.mono_l k
  unfold millwrightlaw04_CheckNumbers.f
  repeat' first
      | (with_reducible exact ih0 _ _ _ _ _ _ _ _ _ _ _ _ _ _)
      | (with_reducible exact ih1 _ _ _ _ _ _ _ _ _ _ _ _ _)
      | (with_reducible exact check_Config.mono _ _ _ _ _ _ _ _ _ _ _)
      | (with_reducible exact check_File.mono _ _ _ _ _ _ _ _ _ _ _ _ _)
      | (with_reducible exact millwrightlaw04_shown.mono _)
      | (with_reducible exact LeO.refl _)
      | (with_reducible exact LeO.none _)
      | (with_reducible refine LeO.ite ?_ ?_)
      | (with_reducible refine LeO.bind ?_ (fun _ => ?_))
      | exact ih0 _ _ _ _ _ _ _ _ _ _ _ _ _ _
      | exact ih1 _ _ _ _ _ _ _ _ _ _ _ _ _
      | exact check_Config.mono _ _ _ _ _ _ _ _ _ _ _
      | exact check_File.mono _ _ _ _ _ _ _ _ _ _ _ _ _
      | exact millwrightlaw04_shown.mono _
      | exact LeO.none _
      | refine LeO.ite ?_ ?_
      | refine LeO.bind ?_ (fun _ => ?_)
set_option maxHeartbeats 8000000 in
set_option maxRecDepth 100000 in
theorem millwrightlaw04_CheckNumbers.calls (k : Nat) (a0 : Int) (a1 : Int) (w : World) (h : millwrightlaw04_CheckNumbers.f k a0 a1 = some true) :
    Calls Try.prog 4 #[.int .i64 a0, .int .i64 a1] w fun e w' => e = .returned (.bool true) ∧ Below w.heap.size w w' := by
  have hu23 := Try.underlying23
  have hu33 := Try.underlying33
  have HB := Aside0.mk (Below.refl w.heap.size w)
  have H : ((millwrightlaw04_shown.f k).bind fun t170 => ((millwrightlaw04_good.f).bind fun bt171 => (if (Int.tmod (Go.bits .and .i64 a0 65535) 10) = 0 then (millwrightlaw04_CheckNumbers.j0 k a1 t170 1 1048576 a1 bt171.2.1 bt171.2.2.1 bt171.2.2.2.1 bt171.2.2.2.2.1 bt171.2.2.2.2.2.1 bt171.2.2.2.2.2.2.1 bt171.2.2.2.2.2.2.2.1 bt171.2.2.2.2.2.2.2.2.1 bt171.2.2.2.2.2.2.2.2.2) else (if (Int.tmod (Go.bits .and .i64 a0 65535) 10) = 1 then (millwrightlaw04_CheckNumbers.j0 k a1 t170 1 16 bt171.1 a1 bt171.2.2.1 bt171.2.2.2.1 bt171.2.2.2.2.1 bt171.2.2.2.2.2.1 bt171.2.2.2.2.2.2.1 bt171.2.2.2.2.2.2.2.1 bt171.2.2.2.2.2.2.2.2.1 bt171.2.2.2.2.2.2.2.2.2) else (if (Int.tmod (Go.bits .and .i64 a0 65535) 10) = 2 then (millwrightlaw04_CheckNumbers.j0 k a1 t170 1 1048576 bt171.1 bt171.2.1 a1 bt171.2.2.2.1 bt171.2.2.2.2.1 bt171.2.2.2.2.2.1 bt171.2.2.2.2.2.2.1 bt171.2.2.2.2.2.2.2.1 bt171.2.2.2.2.2.2.2.2.1 bt171.2.2.2.2.2.2.2.2.2) else (if (Int.tmod (Go.bits .and .i64 a0 65535) 10) = 3 then (millwrightlaw04_CheckNumbers.j0 k a1 t170 0 1048576 bt171.1 bt171.2.1 bt171.2.2.1 a1 bt171.2.2.2.2.1 bt171.2.2.2.2.2.1 bt171.2.2.2.2.2.2.1 bt171.2.2.2.2.2.2.2.1 bt171.2.2.2.2.2.2.2.2.1 bt171.2.2.2.2.2.2.2.2.2) else (if (Int.tmod (Go.bits .and .i64 a0 65535) 10) = 4 then (millwrightlaw04_CheckNumbers.j0 k a1 t170 1 1048576 bt171.1 bt171.2.1 bt171.2.2.1 bt171.2.2.2.1 a1 bt171.2.2.2.2.2.1 bt171.2.2.2.2.2.2.1 bt171.2.2.2.2.2.2.2.1 bt171.2.2.2.2.2.2.2.2.1 bt171.2.2.2.2.2.2.2.2.2) else (if (Int.tmod (Go.bits .and .i64 a0 65535) 10) = 5 then (millwrightlaw04_CheckNumbers.j0 k a1 t170 0 1048576 bt171.1 bt171.2.1 bt171.2.2.1 bt171.2.2.2.1 bt171.2.2.2.2.1 a1 bt171.2.2.2.2.2.2.1 bt171.2.2.2.2.2.2.2.1 bt171.2.2.2.2.2.2.2.2.1 bt171.2.2.2.2.2.2.2.2.2) else (if (Int.tmod (Go.bits .and .i64 a0 65535) 10) = 6 then (millwrightlaw04_CheckNumbers.j0 k a1 t170 1 1048576 bt171.1 bt171.2.1 bt171.2.2.1 bt171.2.2.2.1 bt171.2.2.2.2.1 bt171.2.2.2.2.2.1 a1 bt171.2.2.2.2.2.2.2.1 bt171.2.2.2.2.2.2.2.2.1 bt171.2.2.2.2.2.2.2.2.2) else (if (Int.tmod (Go.bits .and .i64 a0 65535) 10) = 7 then (millwrightlaw04_CheckNumbers.j0 k a1 t170 1 1048576 bt171.1 bt171.2.1 bt171.2.2.1 bt171.2.2.2.1 bt171.2.2.2.2.1 bt171.2.2.2.2.2.1 bt171.2.2.2.2.2.2.1 a1 bt171.2.2.2.2.2.2.2.2.1 bt171.2.2.2.2.2.2.2.2.2) else (if (Int.tmod (Go.bits .and .i64 a0 65535) 10) = 8 then (millwrightlaw04_CheckNumbers.j0 k a1 t170 1 1048576 bt171.1 bt171.2.1 bt171.2.2.1 bt171.2.2.2.1 bt171.2.2.2.2.1 bt171.2.2.2.2.2.1 bt171.2.2.2.2.2.2.1 bt171.2.2.2.2.2.2.2.1 a1 bt171.2.2.2.2.2.2.2.2.2) else (if (Int.tmod (Go.bits .and .i64 a0 65535) 10) = 9 then (millwrightlaw04_CheckNumbers.j0 k a1 t170 1 1048576 bt171.1 bt171.2.1 bt171.2.2.1 bt171.2.2.2.1 bt171.2.2.2.2.1 bt171.2.2.2.2.2.1 bt171.2.2.2.2.2.2.1 bt171.2.2.2.2.2.2.2.1 bt171.2.2.2.2.2.2.2.2.1 a1) else (millwrightlaw04_CheckNumbers.j0 k a1 t170 1 1048576 bt171.1 bt171.2.1 bt171.2.2.1 bt171.2.2.2.1 bt171.2.2.2.2.1 bt171.2.2.2.2.2.1 bt171.2.2.2.2.2.2.1 bt171.2.2.2.2.2.2.2.1 bt171.2.2.2.2.2.2.2.2.1 bt171.2.2.2.2.2.2.2.2.2))))))))))))) = some true := h
  clear h
  replace H := Option.bind_eq_some_iff.mp H
  obtain ⟨t170, A30, H⟩ := H
  replace H : ((millwrightlaw04_good.f).bind fun bt171 => (if (Int.tmod (Go.bits .and .i64 a0 65535) 10) = 0 then (millwrightlaw04_CheckNumbers.j0 k a1 t170 1 1048576 a1 bt171.2.1 bt171.2.2.1 bt171.2.2.2.1 bt171.2.2.2.2.1 bt171.2.2.2.2.2.1 bt171.2.2.2.2.2.2.1 bt171.2.2.2.2.2.2.2.1 bt171.2.2.2.2.2.2.2.2.1 bt171.2.2.2.2.2.2.2.2.2) else (if (Int.tmod (Go.bits .and .i64 a0 65535) 10) = 1 then (millwrightlaw04_CheckNumbers.j0 k a1 t170 1 16 bt171.1 a1 bt171.2.2.1 bt171.2.2.2.1 bt171.2.2.2.2.1 bt171.2.2.2.2.2.1 bt171.2.2.2.2.2.2.1 bt171.2.2.2.2.2.2.2.1 bt171.2.2.2.2.2.2.2.2.1 bt171.2.2.2.2.2.2.2.2.2) else (if (Int.tmod (Go.bits .and .i64 a0 65535) 10) = 2 then (millwrightlaw04_CheckNumbers.j0 k a1 t170 1 1048576 bt171.1 bt171.2.1 a1 bt171.2.2.2.1 bt171.2.2.2.2.1 bt171.2.2.2.2.2.1 bt171.2.2.2.2.2.2.1 bt171.2.2.2.2.2.2.2.1 bt171.2.2.2.2.2.2.2.2.1 bt171.2.2.2.2.2.2.2.2.2) else (if (Int.tmod (Go.bits .and .i64 a0 65535) 10) = 3 then (millwrightlaw04_CheckNumbers.j0 k a1 t170 0 1048576 bt171.1 bt171.2.1 bt171.2.2.1 a1 bt171.2.2.2.2.1 bt171.2.2.2.2.2.1 bt171.2.2.2.2.2.2.1 bt171.2.2.2.2.2.2.2.1 bt171.2.2.2.2.2.2.2.2.1 bt171.2.2.2.2.2.2.2.2.2) else (if (Int.tmod (Go.bits .and .i64 a0 65535) 10) = 4 then (millwrightlaw04_CheckNumbers.j0 k a1 t170 1 1048576 bt171.1 bt171.2.1 bt171.2.2.1 bt171.2.2.2.1 a1 bt171.2.2.2.2.2.1 bt171.2.2.2.2.2.2.1 bt171.2.2.2.2.2.2.2.1 bt171.2.2.2.2.2.2.2.2.1 bt171.2.2.2.2.2.2.2.2.2) else (if (Int.tmod (Go.bits .and .i64 a0 65535) 10) = 5 then (millwrightlaw04_CheckNumbers.j0 k a1 t170 0 1048576 bt171.1 bt171.2.1 bt171.2.2.1 bt171.2.2.2.1 bt171.2.2.2.2.1 a1 bt171.2.2.2.2.2.2.1 bt171.2.2.2.2.2.2.2.1 bt171.2.2.2.2.2.2.2.2.1 bt171.2.2.2.2.2.2.2.2.2) else (if (Int.tmod (Go.bits .and .i64 a0 65535) 10) = 6 then (millwrightlaw04_CheckNumbers.j0 k a1 t170 1 1048576 bt171.1 bt171.2.1 bt171.2.2.1 bt171.2.2.2.1 bt171.2.2.2.2.1 bt171.2.2.2.2.2.1 a1 bt171.2.2.2.2.2.2.2.1 bt171.2.2.2.2.2.2.2.2.1 bt171.2.2.2.2.2.2.2.2.2) else (if (Int.tmod (Go.bits .and .i64 a0 65535) 10) = 7 then (millwrightlaw04_CheckNumbers.j0 k a1 t170 1 1048576 bt171.1 bt171.2.1 bt171.2.2.1 bt171.2.2.2.1 bt171.2.2.2.2.1 bt171.2.2.2.2.2.1 bt171.2.2.2.2.2.2.1 a1 bt171.2.2.2.2.2.2.2.2.1 bt171.2.2.2.2.2.2.2.2.2) else (if (Int.tmod (Go.bits .and .i64 a0 65535) 10) = 8 then (millwrightlaw04_CheckNumbers.j0 k a1 t170 1 1048576 bt171.1 bt171.2.1 bt171.2.2.1 bt171.2.2.2.1 bt171.2.2.2.2.1 bt171.2.2.2.2.2.1 bt171.2.2.2.2.2.2.1 bt171.2.2.2.2.2.2.2.1 a1 bt171.2.2.2.2.2.2.2.2.2) else (if (Int.tmod (Go.bits .and .i64 a0 65535) 10) = 9 then (millwrightlaw04_CheckNumbers.j0 k a1 t170 1 1048576 bt171.1 bt171.2.1 bt171.2.2.1 bt171.2.2.2.1 bt171.2.2.2.2.1 bt171.2.2.2.2.2.1 bt171.2.2.2.2.2.2.1 bt171.2.2.2.2.2.2.2.1 bt171.2.2.2.2.2.2.2.2.1 a1) else (millwrightlaw04_CheckNumbers.j0 k a1 t170 1 1048576 bt171.1 bt171.2.1 bt171.2.2.1 bt171.2.2.2.1 bt171.2.2.2.2.1 bt171.2.2.2.2.2.1 bt171.2.2.2.2.2.2.1 bt171.2.2.2.2.2.2.2.1 bt171.2.2.2.2.2.2.2.2.1 bt171.2.2.2.2.2.2.2.2.2)))))))))))) = some true := H
  have A3 := Aside0.mk A30
  clear A30
  replace H := Option.bind_eq_some_iff.mp H
  obtain ⟨⟨t171, t172, t173, t174, t175, t176, t177, t178, t179, t180⟩, A40, H⟩ := H
  replace H : (if (Int.tmod (Go.bits .and .i64 a0 65535) 10) = 0 then (millwrightlaw04_CheckNumbers.j0 k a1 t170 1 1048576 a1 t172 t173 t174 t175 t176 t177 t178 t179 t180) else (if (Int.tmod (Go.bits .and .i64 a0 65535) 10) = 1 then (millwrightlaw04_CheckNumbers.j0 k a1 t170 1 16 t171 a1 t173 t174 t175 t176 t177 t178 t179 t180) else (if (Int.tmod (Go.bits .and .i64 a0 65535) 10) = 2 then (millwrightlaw04_CheckNumbers.j0 k a1 t170 1 1048576 t171 t172 a1 t174 t175 t176 t177 t178 t179 t180) else (if (Int.tmod (Go.bits .and .i64 a0 65535) 10) = 3 then (millwrightlaw04_CheckNumbers.j0 k a1 t170 0 1048576 t171 t172 t173 a1 t175 t176 t177 t178 t179 t180) else (if (Int.tmod (Go.bits .and .i64 a0 65535) 10) = 4 then (millwrightlaw04_CheckNumbers.j0 k a1 t170 1 1048576 t171 t172 t173 t174 a1 t176 t177 t178 t179 t180) else (if (Int.tmod (Go.bits .and .i64 a0 65535) 10) = 5 then (millwrightlaw04_CheckNumbers.j0 k a1 t170 0 1048576 t171 t172 t173 t174 t175 a1 t177 t178 t179 t180) else (if (Int.tmod (Go.bits .and .i64 a0 65535) 10) = 6 then (millwrightlaw04_CheckNumbers.j0 k a1 t170 1 1048576 t171 t172 t173 t174 t175 t176 a1 t178 t179 t180) else (if (Int.tmod (Go.bits .and .i64 a0 65535) 10) = 7 then (millwrightlaw04_CheckNumbers.j0 k a1 t170 1 1048576 t171 t172 t173 t174 t175 t176 t177 a1 t179 t180) else (if (Int.tmod (Go.bits .and .i64 a0 65535) 10) = 8 then (millwrightlaw04_CheckNumbers.j0 k a1 t170 1 1048576 t171 t172 t173 t174 t175 t176 t177 t178 a1 t180) else (if (Int.tmod (Go.bits .and .i64 a0 65535) 10) = 9 then (millwrightlaw04_CheckNumbers.j0 k a1 t170 1 1048576 t171 t172 t173 t174 t175 t176 t177 t178 t179 a1) else (millwrightlaw04_CheckNumbers.j0 k a1 t170 1 1048576 t171 t172 t173 t174 t175 t176 t177 t178 t179 t180))))))))))) = some true := H
  have A4 := Aside0.mk A40
  clear A40
  have HC5 := Aside0.mk H
  clear H
  go_enter Try.func4, Try.ntmps4
  go_upto_block 0 with (first | ((with_reducible refine gate_callee (f := 13) rfl ?_); refine goesL_ (some 12) rfl rfl Try.func13 (by kernel_rfl) rfl #[] rfl (by (try simp only [List.map_toArray, List.map_cons, List.map_nil]); first | done | rfl | (simp only [List.length_drop, List.length_take]; rfl)) ?_; (with_reducible refine (millwrightlaw04_shown.calls k  t170 _ A3.out).mono ?_); rintro e w6 ⟨rfl, hb⟩; refine ⟨_, rfl, ?_⟩; have n0_ := Aside0.mk (below_step (by repeat (first | (with_reducible first | exact HB.out | apply below_alloc | apply pw_below_drewN | apply below_drew1) | exact HB.out)) hb); clear HB; have HB := n0_; clear n0_; (try clear hb); (try clear hb2); (try clear hk); (try clear hi)) | ((with_reducible refine gate_callee (f := 20) rfl ?_); refine goesL_ (some 13) rfl rfl Try.func20 (by kernel_rfl) rfl #[] rfl (by (try simp only [List.map_toArray, List.map_cons, List.map_nil]); first | done | rfl | (simp only [List.length_drop, List.length_take]; rfl)) ?_; (with_reducible refine (millwrightlaw04_good.calls  t171 t172 t173 t174 t175 t176 t177 t178 t179 t180 _ A4.out).mono ?_); rintro e w7 ⟨rfl, hb⟩; refine ⟨_, rfl, ?_⟩; have n0_ := Aside0.mk (below_step (by repeat (first | (with_reducible first | exact HB.out | apply below_alloc | apply pw_below_drewN | apply below_drew1) | exact HB.out)) hb); clear HB; have HB := n0_; clear n0_; (try clear hb); (try clear hb2); (try clear hk); (try clear hi)) | ((with_reducible refine gate_dst (N := 6) rfl ?_); refine box_event ?hg (N := 6) ?hd (cs := #[.int .i64 0, .int .i64 0, .int .i64 0, .int .i64 0, .int .i64 0, .int .i64 0, .int .i64 0, .int .i64 0, .int .i64 0, .int .i64 0]) (t := 23) ?hr ?_; (case hd => rfl); (case hg => rfl); (case hr => first | (go_simp; done) | (go_simp; rfl)); intro gb181 hg w8 hbox hb; have n0_ := Aside0.mk (below_step (by repeat (first | (with_reducible first | exact HB.out | apply below_alloc | apply pw_below_drewN | apply below_drew1) | exact HB.out)) hb); have n1_ := Aside0.mk (hbox); have n2_ := Aside0.mk ((by rw [hg]; exact (below_size (by repeat (first | (with_reducible first | exact HB.out | apply below_alloc | apply pw_below_drewN | apply below_drew1) | exact HB.out))) : w.heap.size ≤ gb181)); have n3_ := Aside0.mk ((by rw [hg]; exact (below_size (by repeat (first | (with_reducible first | exact HB.out | apply below_alloc | apply pw_below_drewN | apply below_drew1) | exact HB.out))) : w.heap.size ≤ gb181)); clear HB; have HB := n0_; have BK181 := n1_; have GW181 := n2_; have GE181 := n3_; clear n0_ n1_ n2_ n3_; clear hb hbox hg; have hcz9_0 : w8.cell? ⟨gb181, 0, none⟩ = some (.int .i64 0) := (blk_cell BK181.out 0).trans rfl; have hcz9_1 : w8.cell? ⟨gb181, 1, none⟩ = some (.int .i64 0) := (blk_cell BK181.out 1).trans rfl; have hcz9_2 : w8.cell? ⟨gb181, 2, none⟩ = some (.int .i64 0) := (blk_cell BK181.out 2).trans rfl; have hcz9_3 : w8.cell? ⟨gb181, 3, none⟩ = some (.int .i64 0) := (blk_cell BK181.out 3).trans rfl; have hcz9_4 : w8.cell? ⟨gb181, 4, none⟩ = some (.int .i64 0) := (blk_cell BK181.out 4).trans rfl; have hcz9_5 : w8.cell? ⟨gb181, 5, none⟩ = some (.int .i64 0) := (blk_cell BK181.out 5).trans rfl; have hcz9_6 : w8.cell? ⟨gb181, 6, none⟩ = some (.int .i64 0) := (blk_cell BK181.out 6).trans rfl; have hcz9_7 : w8.cell? ⟨gb181, 7, none⟩ = some (.int .i64 0) := (blk_cell BK181.out 7).trans rfl; have hcz9_8 : w8.cell? ⟨gb181, 8, none⟩ = some (.int .i64 0) := (blk_cell BK181.out 8).trans rfl; have hcz9_9 : w8.cell? ⟨gb181, 9, none⟩ = some (.int .i64 0) := (blk_cell BK181.out 9).trans rfl; have hfz9_0 := blk_frozen BK181.out 0; have hfz9_1 := blk_frozen BK181.out 1; have hfz9_2 := blk_frozen BK181.out 2; have hfz9_3 := blk_frozen BK181.out 3; have hfz9_4 := blk_frozen BK181.out 4; have hfz9_5 := blk_frozen BK181.out 5; have hfz9_6 := blk_frozen BK181.out 6; have hfz9_7 := blk_frozen BK181.out 7; have hfz9_8 := blk_frozen BK181.out 8; have hfz9_9 := blk_frozen BK181.out 9))
  (try simp only [Act.put, List.setIfInBounds_toArray, List.set_cons_zero, List.set_cons_succ])
  go_cut [7, 8] (fun v7 v8 wc => ∃ (kq : Nat) (x7_4 : Int) (x8_4 : Int) (x182000_4 : Int) (x182001_4 : Int) (x182002_4 : Int) (x182003_4 : Int) (x182004_4 : Int) (x182005_4 : Int) (x182006_4 : Int) (x182007_4 : Int) (x182008_4 : Int) (x182009_4 : Int), v7 = .int .i64 x7_4 ∧ v8 = .int .i64 x8_4 ∧ Aside0 (millwrightlaw04_CheckNumbers.j0 kq a1 t170 x7_4 x8_4 x182000_4 x182001_4 x182002_4 x182003_4 x182004_4 x182005_4 x182006_4 x182007_4 x182008_4 x182009_4 = some true) ∧ Aside0 (kq ≤ k) ∧ Aside0 (wc.heap[gb181]? = some (.cells #[.int .i64 x182000_4, .int .i64 x182001_4, .int .i64 x182002_4, .int .i64 x182003_4, .int .i64 x182004_4, .int .i64 x182005_4, .int .i64 x182006_4, .int .i64 x182007_4, .int .i64 x182008_4, .int .i64 x182009_4] 23 (0, 0))) ∧ Aside0 (Below w.heap.size w wc))
  case first =>
    have H := HC5.out
    clear HC5
    by_cases c10 : (Int.tmod (Go.bits .and .i64 a0 65535) 10) = 0
    · rw [if_pos c10] at H
      have c10b0 : ((Int.tmod (Go.bits .and .i64 a0 65535) 10) == 0) = true := beq_iff_eq.mpr c10
      have c10b1 : ((Int.tmod (Go.bits .and .i64 a0 65535) 10) != 0) = false := bne_eq_false_iff_eq.mpr c10
      clear c10
      (first | rw [c10b0] | (simp only [i64_w, i32_w]; rw [c10b0]) | skip)
      have H' := Aside0.mk H
      clear H
      have hcz11_0 : w8.cell? ⟨gb181, 0, none⟩ = some (.int .i64 0) := (blk_cell BK181.out 0).trans rfl
      have hcz11_1 : w8.cell? ⟨gb181, 1, none⟩ = some (.int .i64 0) := (blk_cell BK181.out 1).trans rfl
      have hcz11_2 : w8.cell? ⟨gb181, 2, none⟩ = some (.int .i64 0) := (blk_cell BK181.out 2).trans rfl
      have hcz11_3 : w8.cell? ⟨gb181, 3, none⟩ = some (.int .i64 0) := (blk_cell BK181.out 3).trans rfl
      have hcz11_4 : w8.cell? ⟨gb181, 4, none⟩ = some (.int .i64 0) := (blk_cell BK181.out 4).trans rfl
      have hcz11_5 : w8.cell? ⟨gb181, 5, none⟩ = some (.int .i64 0) := (blk_cell BK181.out 5).trans rfl
      have hcz11_6 : w8.cell? ⟨gb181, 6, none⟩ = some (.int .i64 0) := (blk_cell BK181.out 6).trans rfl
      have hcz11_7 : w8.cell? ⟨gb181, 7, none⟩ = some (.int .i64 0) := (blk_cell BK181.out 7).trans rfl
      have hcz11_8 : w8.cell? ⟨gb181, 8, none⟩ = some (.int .i64 0) := (blk_cell BK181.out 8).trans rfl
      have hcz11_9 : w8.cell? ⟨gb181, 9, none⟩ = some (.int .i64 0) := (blk_cell BK181.out 9).trans rfl
      have hfz11_0 := blk_frozen BK181.out 0
      have hfz11_1 := blk_frozen BK181.out 1
      have hfz11_2 := blk_frozen BK181.out 2
      have hfz11_3 := blk_frozen BK181.out 3
      have hfz11_4 := blk_frozen BK181.out 4
      have hfz11_5 := blk_frozen BK181.out 5
      have hfz11_6 := blk_frozen BK181.out 6
      have hfz11_7 := blk_frozen BK181.out 7
      have hfz11_8 := blk_frozen BK181.out 8
      have hfz11_9 := blk_frozen BK181.out 9
      go_wp2
      first | go_meet | (refine Met.intro ?_; go_step; (try rw [c10b0]); (repeat apply Exists.intro); refine ⟨?rel, rfl⟩)
      case rel => exact ⟨_, (1), (1048576), (a1), (t172), (t173), (t174), (t175), (t176), (t177), (t178), (t179), (t180), (by first | rfl | (simp; done) | (simp [*]; done)), (by first | rfl | (simp; done) | (simp [*]; done)), H', ⟨by first | omega | exact Nat.le_refl _⟩, ⟨by (with_reducible repeat (first | refine blk_drewN ?_ _ | refine blk_drew ?_ | refine blk_alloc ?_ _)); refine blk_put (cs := #[.int .i64 t171, .int .i64 t172, .int .i64 t173, .int .i64 t174, .int .i64 t175, .int .i64 t176, .int .i64 t177, .int .i64 t178, .int .i64 t179, .int .i64 t180]) ?_ 0 _ rfl; (with_reducible repeat (first | refine blk_drewN ?_ _ | refine blk_drew ?_ | refine blk_alloc ?_ _)); refine blk_put (cs := #[.int .i64 t171, .int .i64 t172, .int .i64 t173, .int .i64 t174, .int .i64 t175, .int .i64 t176, .int .i64 t177, .int .i64 t178, .int .i64 t179, .int .i64 0]) ?_ 9 _ rfl; (with_reducible repeat (first | refine blk_drewN ?_ _ | refine blk_drew ?_ | refine blk_alloc ?_ _)); refine blk_put (cs := #[.int .i64 t171, .int .i64 t172, .int .i64 t173, .int .i64 t174, .int .i64 t175, .int .i64 t176, .int .i64 t177, .int .i64 t178, .int .i64 0, .int .i64 0]) ?_ 8 _ rfl; (with_reducible repeat (first | refine blk_drewN ?_ _ | refine blk_drew ?_ | refine blk_alloc ?_ _)); refine blk_put (cs := #[.int .i64 t171, .int .i64 t172, .int .i64 t173, .int .i64 t174, .int .i64 t175, .int .i64 t176, .int .i64 t177, .int .i64 0, .int .i64 0, .int .i64 0]) ?_ 7 _ rfl; (with_reducible repeat (first | refine blk_drewN ?_ _ | refine blk_drew ?_ | refine blk_alloc ?_ _)); refine blk_put (cs := #[.int .i64 t171, .int .i64 t172, .int .i64 t173, .int .i64 t174, .int .i64 t175, .int .i64 t176, .int .i64 0, .int .i64 0, .int .i64 0, .int .i64 0]) ?_ 6 _ rfl; (with_reducible repeat (first | refine blk_drewN ?_ _ | refine blk_drew ?_ | refine blk_alloc ?_ _)); refine blk_put (cs := #[.int .i64 t171, .int .i64 t172, .int .i64 t173, .int .i64 t174, .int .i64 t175, .int .i64 0, .int .i64 0, .int .i64 0, .int .i64 0, .int .i64 0]) ?_ 5 _ rfl; (with_reducible repeat (first | refine blk_drewN ?_ _ | refine blk_drew ?_ | refine blk_alloc ?_ _)); refine blk_put (cs := #[.int .i64 t171, .int .i64 t172, .int .i64 t173, .int .i64 t174, .int .i64 0, .int .i64 0, .int .i64 0, .int .i64 0, .int .i64 0, .int .i64 0]) ?_ 4 _ rfl; (with_reducible repeat (first | refine blk_drewN ?_ _ | refine blk_drew ?_ | refine blk_alloc ?_ _)); refine blk_put (cs := #[.int .i64 t171, .int .i64 t172, .int .i64 t173, .int .i64 0, .int .i64 0, .int .i64 0, .int .i64 0, .int .i64 0, .int .i64 0, .int .i64 0]) ?_ 3 _ rfl; (with_reducible repeat (first | refine blk_drewN ?_ _ | refine blk_drew ?_ | refine blk_alloc ?_ _)); refine blk_put (cs := #[.int .i64 t171, .int .i64 t172, .int .i64 0, .int .i64 0, .int .i64 0, .int .i64 0, .int .i64 0, .int .i64 0, .int .i64 0, .int .i64 0]) ?_ 2 _ rfl; (with_reducible repeat (first | refine blk_drewN ?_ _ | refine blk_drew ?_ | refine blk_alloc ?_ _)); refine blk_put (cs := #[.int .i64 t171, .int .i64 0, .int .i64 0, .int .i64 0, .int .i64 0, .int .i64 0, .int .i64 0, .int .i64 0, .int .i64 0, .int .i64 0]) ?_ 1 _ rfl; (with_reducible repeat (first | refine blk_drewN ?_ _ | refine blk_drew ?_ | refine blk_alloc ?_ _)); refine blk_put (cs := #[.int .i64 0, .int .i64 0, .int .i64 0, .int .i64 0, .int .i64 0, .int .i64 0, .int .i64 0, .int .i64 0, .int .i64 0, .int .i64 0]) ?_ 0 _ rfl; (with_reducible repeat (first | refine blk_drewN ?_ _ | refine blk_drew ?_ | refine blk_alloc ?_ _)); exact BK181.out⟩, ⟨by repeat (first | (with_reducible first | exact HB.out | apply below_alloc | apply pw_below_drewN | apply below_drew1 | refine below_set ?_ GE181.out) | exact HB.out)⟩⟩
    · rw [if_neg c10] at H
      have c10b0 : ((Int.tmod (Go.bits .and .i64 a0 65535) 10) == 0) = false := beq_eq_false_iff_ne.mpr c10
      have c10b1 : ((Int.tmod (Go.bits .and .i64 a0 65535) 10) != 0) = true := bne_iff_ne.mpr c10
      (first | rw [c10b0] | (simp only [i64_w, i32_w]; rw [c10b0]) | skip)
      by_cases c12 : (Int.tmod (Go.bits .and .i64 a0 65535) 10) = 1
      · rw [if_pos c12] at H
        have c12b0 : ((Int.tmod (Go.bits .and .i64 a0 65535) 10) == 1) = true := beq_iff_eq.mpr c12
        have c12b1 : ((Int.tmod (Go.bits .and .i64 a0 65535) 10) != 1) = false := bne_eq_false_iff_eq.mpr c12
        clear c12
        have H' := Aside0.mk H
        clear H
        have hcz13_0 : w8.cell? ⟨gb181, 0, none⟩ = some (.int .i64 0) := (blk_cell BK181.out 0).trans rfl
        have hcz13_1 : w8.cell? ⟨gb181, 1, none⟩ = some (.int .i64 0) := (blk_cell BK181.out 1).trans rfl
        have hcz13_2 : w8.cell? ⟨gb181, 2, none⟩ = some (.int .i64 0) := (blk_cell BK181.out 2).trans rfl
        have hcz13_3 : w8.cell? ⟨gb181, 3, none⟩ = some (.int .i64 0) := (blk_cell BK181.out 3).trans rfl
        have hcz13_4 : w8.cell? ⟨gb181, 4, none⟩ = some (.int .i64 0) := (blk_cell BK181.out 4).trans rfl
        have hcz13_5 : w8.cell? ⟨gb181, 5, none⟩ = some (.int .i64 0) := (blk_cell BK181.out 5).trans rfl
        have hcz13_6 : w8.cell? ⟨gb181, 6, none⟩ = some (.int .i64 0) := (blk_cell BK181.out 6).trans rfl
        have hcz13_7 : w8.cell? ⟨gb181, 7, none⟩ = some (.int .i64 0) := (blk_cell BK181.out 7).trans rfl
        have hcz13_8 : w8.cell? ⟨gb181, 8, none⟩ = some (.int .i64 0) := (blk_cell BK181.out 8).trans rfl
        have hcz13_9 : w8.cell? ⟨gb181, 9, none⟩ = some (.int .i64 0) := (blk_cell BK181.out 9).trans rfl
        have hfz13_0 := blk_frozen BK181.out 0
        have hfz13_1 := blk_frozen BK181.out 1
        have hfz13_2 := blk_frozen BK181.out 2
        have hfz13_3 := blk_frozen BK181.out 3
        have hfz13_4 := blk_frozen BK181.out 4
        have hfz13_5 := blk_frozen BK181.out 5
        have hfz13_6 := blk_frozen BK181.out 6
        have hfz13_7 := blk_frozen BK181.out 7
        have hfz13_8 := blk_frozen BK181.out 8
        have hfz13_9 := blk_frozen BK181.out 9
        go_wp2
        first | go_meet | (refine Met.intro ?_; go_step; (try rw [c10b0]); (try rw [c12b0]); (repeat apply Exists.intro); refine ⟨?rel, rfl⟩)
        case rel => exact ⟨_, (1), (16), (t171), (a1), (t173), (t174), (t175), (t176), (t177), (t178), (t179), (t180), (by first | rfl | (simp; done) | (simp [*]; done)), (by first | rfl | (simp; done) | (simp [*]; done)), H', ⟨by first | omega | exact Nat.le_refl _⟩, ⟨by (with_reducible repeat (first | refine blk_drewN ?_ _ | refine blk_drew ?_ | refine blk_alloc ?_ _)); refine blk_put (cs := #[.int .i64 t171, .int .i64 t172, .int .i64 t173, .int .i64 t174, .int .i64 t175, .int .i64 t176, .int .i64 t177, .int .i64 t178, .int .i64 t179, .int .i64 t180]) ?_ 1 _ rfl; (with_reducible repeat (first | refine blk_drewN ?_ _ | refine blk_drew ?_ | refine blk_alloc ?_ _)); refine blk_put (cs := #[.int .i64 t171, .int .i64 t172, .int .i64 t173, .int .i64 t174, .int .i64 t175, .int .i64 t176, .int .i64 t177, .int .i64 t178, .int .i64 t179, .int .i64 0]) ?_ 9 _ rfl; (with_reducible repeat (first | refine blk_drewN ?_ _ | refine blk_drew ?_ | refine blk_alloc ?_ _)); refine blk_put (cs := #[.int .i64 t171, .int .i64 t172, .int .i64 t173, .int .i64 t174, .int .i64 t175, .int .i64 t176, .int .i64 t177, .int .i64 t178, .int .i64 0, .int .i64 0]) ?_ 8 _ rfl; (with_reducible repeat (first | refine blk_drewN ?_ _ | refine blk_drew ?_ | refine blk_alloc ?_ _)); refine blk_put (cs := #[.int .i64 t171, .int .i64 t172, .int .i64 t173, .int .i64 t174, .int .i64 t175, .int .i64 t176, .int .i64 t177, .int .i64 0, .int .i64 0, .int .i64 0]) ?_ 7 _ rfl; (with_reducible repeat (first | refine blk_drewN ?_ _ | refine blk_drew ?_ | refine blk_alloc ?_ _)); refine blk_put (cs := #[.int .i64 t171, .int .i64 t172, .int .i64 t173, .int .i64 t174, .int .i64 t175, .int .i64 t176, .int .i64 0, .int .i64 0, .int .i64 0, .int .i64 0]) ?_ 6 _ rfl; (with_reducible repeat (first | refine blk_drewN ?_ _ | refine blk_drew ?_ | refine blk_alloc ?_ _)); refine blk_put (cs := #[.int .i64 t171, .int .i64 t172, .int .i64 t173, .int .i64 t174, .int .i64 t175, .int .i64 0, .int .i64 0, .int .i64 0, .int .i64 0, .int .i64 0]) ?_ 5 _ rfl; (with_reducible repeat (first | refine blk_drewN ?_ _ | refine blk_drew ?_ | refine blk_alloc ?_ _)); refine blk_put (cs := #[.int .i64 t171, .int .i64 t172, .int .i64 t173, .int .i64 t174, .int .i64 0, .int .i64 0, .int .i64 0, .int .i64 0, .int .i64 0, .int .i64 0]) ?_ 4 _ rfl; (with_reducible repeat (first | refine blk_drewN ?_ _ | refine blk_drew ?_ | refine blk_alloc ?_ _)); refine blk_put (cs := #[.int .i64 t171, .int .i64 t172, .int .i64 t173, .int .i64 0, .int .i64 0, .int .i64 0, .int .i64 0, .int .i64 0, .int .i64 0, .int .i64 0]) ?_ 3 _ rfl; (with_reducible repeat (first | refine blk_drewN ?_ _ | refine blk_drew ?_ | refine blk_alloc ?_ _)); refine blk_put (cs := #[.int .i64 t171, .int .i64 t172, .int .i64 0, .int .i64 0, .int .i64 0, .int .i64 0, .int .i64 0, .int .i64 0, .int .i64 0, .int .i64 0]) ?_ 2 _ rfl; (with_reducible repeat (first | refine blk_drewN ?_ _ | refine blk_drew ?_ | refine blk_alloc ?_ _)); refine blk_put (cs := #[.int .i64 t171, .int .i64 0, .int .i64 0, .int .i64 0, .int .i64 0, .int .i64 0, .int .i64 0, .int .i64 0, .int .i64 0, .int .i64 0]) ?_ 1 _ rfl; (with_reducible repeat (first | refine blk_drewN ?_ _ | refine blk_drew ?_ | refine blk_alloc ?_ _)); refine blk_put (cs := #[.int .i64 0, .int .i64 0, .int .i64 0, .int .i64 0, .int .i64 0, .int .i64 0, .int .i64 0, .int .i64 0, .int .i64 0, .int .i64 0]) ?_ 0 _ rfl; (with_reducible repeat (first | refine blk_drewN ?_ _ | refine blk_drew ?_ | refine blk_alloc ?_ _)); exact BK181.out⟩, ⟨by repeat (first | (with_reducible first | exact HB.out | apply below_alloc | apply pw_below_drewN | apply below_drew1 | refine below_set ?_ GE181.out) | exact HB.out)⟩⟩
      · rw [if_neg c12] at H
        have c12b0 : ((Int.tmod (Go.bits .and .i64 a0 65535) 10) == 1) = false := beq_eq_false_iff_ne.mpr c12
        have c12b1 : ((Int.tmod (Go.bits .and .i64 a0 65535) 10) != 1) = true := bne_iff_ne.mpr c12
        by_cases c14 : (Int.tmod (Go.bits .and .i64 a0 65535) 10) = 2
        · rw [if_pos c14] at H
          have c14b0 : ((Int.tmod (Go.bits .and .i64 a0 65535) 10) == 2) = true := beq_iff_eq.mpr c14
          have c14b1 : ((Int.tmod (Go.bits .and .i64 a0 65535) 10) != 2) = false := bne_eq_false_iff_eq.mpr c14
          clear c14
          have H' := Aside0.mk H
          clear H
          have hcz15_0 : w8.cell? ⟨gb181, 0, none⟩ = some (.int .i64 0) := (blk_cell BK181.out 0).trans rfl
          have hcz15_1 : w8.cell? ⟨gb181, 1, none⟩ = some (.int .i64 0) := (blk_cell BK181.out 1).trans rfl
          have hcz15_2 : w8.cell? ⟨gb181, 2, none⟩ = some (.int .i64 0) := (blk_cell BK181.out 2).trans rfl
          have hcz15_3 : w8.cell? ⟨gb181, 3, none⟩ = some (.int .i64 0) := (blk_cell BK181.out 3).trans rfl
          have hcz15_4 : w8.cell? ⟨gb181, 4, none⟩ = some (.int .i64 0) := (blk_cell BK181.out 4).trans rfl
          have hcz15_5 : w8.cell? ⟨gb181, 5, none⟩ = some (.int .i64 0) := (blk_cell BK181.out 5).trans rfl
          have hcz15_6 : w8.cell? ⟨gb181, 6, none⟩ = some (.int .i64 0) := (blk_cell BK181.out 6).trans rfl
          have hcz15_7 : w8.cell? ⟨gb181, 7, none⟩ = some (.int .i64 0) := (blk_cell BK181.out 7).trans rfl
          have hcz15_8 : w8.cell? ⟨gb181, 8, none⟩ = some (.int .i64 0) := (blk_cell BK181.out 8).trans rfl
          have hcz15_9 : w8.cell? ⟨gb181, 9, none⟩ = some (.int .i64 0) := (blk_cell BK181.out 9).trans rfl
          have hfz15_0 := blk_frozen BK181.out 0
          have hfz15_1 := blk_frozen BK181.out 1
          have hfz15_2 := blk_frozen BK181.out 2
          have hfz15_3 := blk_frozen BK181.out 3
          have hfz15_4 := blk_frozen BK181.out 4
          have hfz15_5 := blk_frozen BK181.out 5
          have hfz15_6 := blk_frozen BK181.out 6
          have hfz15_7 := blk_frozen BK181.out 7
          have hfz15_8 := blk_frozen BK181.out 8
          have hfz15_9 := blk_frozen BK181.out 9
          go_wp2
          first | go_meet | (refine Met.intro ?_; go_step; (try rw [c10b0]); (try rw [c12b0]); (try rw [c14b0]); (repeat apply Exists.intro); refine ⟨?rel, rfl⟩)
          case rel => exact ⟨_, (1), (1048576), (t171), (t172), (a1), (t174), (t175), (t176), (t177), (t178), (t179), (t180), (by first | rfl | (simp; done) | (simp [*]; done)), (by first | rfl | (simp; done) | (simp [*]; done)), H', ⟨by first | omega | exact Nat.le_refl _⟩, ⟨by (with_reducible repeat (first | refine blk_drewN ?_ _ | refine blk_drew ?_ | refine blk_alloc ?_ _)); refine blk_put (cs := #[.int .i64 t171, .int .i64 t172, .int .i64 t173, .int .i64 t174, .int .i64 t175, .int .i64 t176, .int .i64 t177, .int .i64 t178, .int .i64 t179, .int .i64 t180]) ?_ 2 _ rfl; (with_reducible repeat (first | refine blk_drewN ?_ _ | refine blk_drew ?_ | refine blk_alloc ?_ _)); refine blk_put (cs := #[.int .i64 t171, .int .i64 t172, .int .i64 t173, .int .i64 t174, .int .i64 t175, .int .i64 t176, .int .i64 t177, .int .i64 t178, .int .i64 t179, .int .i64 0]) ?_ 9 _ rfl; (with_reducible repeat (first | refine blk_drewN ?_ _ | refine blk_drew ?_ | refine blk_alloc ?_ _)); refine blk_put (cs := #[.int .i64 t171, .int .i64 t172, .int .i64 t173, .int .i64 t174, .int .i64 t175, .int .i64 t176, .int .i64 t177, .int .i64 t178, .int .i64 0, .int .i64 0]) ?_ 8 _ rfl; (with_reducible repeat (first | refine blk_drewN ?_ _ | refine blk_drew ?_ | refine blk_alloc ?_ _)); refine blk_put (cs := #[.int .i64 t171, .int .i64 t172, .int .i64 t173, .int .i64 t174, .int .i64 t175, .int .i64 t176, .int .i64 t177, .int .i64 0, .int .i64 0, .int .i64 0]) ?_ 7 _ rfl; (with_reducible repeat (first | refine blk_drewN ?_ _ | refine blk_drew ?_ | refine blk_alloc ?_ _)); refine blk_put (cs := #[.int .i64 t171, .int .i64 t172, .int .i64 t173, .int .i64 t174, .int .i64 t175, .int .i64 t176, .int .i64 0, .int .i64 0, .int .i64 0, .int .i64 0]) ?_ 6 _ rfl; (with_reducible repeat (first | refine blk_drewN ?_ _ | refine blk_drew ?_ | refine blk_alloc ?_ _)); refine blk_put (cs := #[.int .i64 t171, .int .i64 t172, .int .i64 t173, .int .i64 t174, .int .i64 t175, .int .i64 0, .int .i64 0, .int .i64 0, .int .i64 0, .int .i64 0]) ?_ 5 _ rfl; (with_reducible repeat (first | refine blk_drewN ?_ _ | refine blk_drew ?_ | refine blk_alloc ?_ _)); refine blk_put (cs := #[.int .i64 t171, .int .i64 t172, .int .i64 t173, .int .i64 t174, .int .i64 0, .int .i64 0, .int .i64 0, .int .i64 0, .int .i64 0, .int .i64 0]) ?_ 4 _ rfl; (with_reducible repeat (first | refine blk_drewN ?_ _ | refine blk_drew ?_ | refine blk_alloc ?_ _)); refine blk_put (cs := #[.int .i64 t171, .int .i64 t172, .int .i64 t173, .int .i64 0, .int .i64 0, .int .i64 0, .int .i64 0, .int .i64 0, .int .i64 0, .int .i64 0]) ?_ 3 _ rfl; (with_reducible repeat (first | refine blk_drewN ?_ _ | refine blk_drew ?_ | refine blk_alloc ?_ _)); refine blk_put (cs := #[.int .i64 t171, .int .i64 t172, .int .i64 0, .int .i64 0, .int .i64 0, .int .i64 0, .int .i64 0, .int .i64 0, .int .i64 0, .int .i64 0]) ?_ 2 _ rfl; (with_reducible repeat (first | refine blk_drewN ?_ _ | refine blk_drew ?_ | refine blk_alloc ?_ _)); refine blk_put (cs := #[.int .i64 t171, .int .i64 0, .int .i64 0, .int .i64 0, .int .i64 0, .int .i64 0, .int .i64 0, .int .i64 0, .int .i64 0, .int .i64 0]) ?_ 1 _ rfl; (with_reducible repeat (first | refine blk_drewN ?_ _ | refine blk_drew ?_ | refine blk_alloc ?_ _)); refine blk_put (cs := #[.int .i64 0, .int .i64 0, .int .i64 0, .int .i64 0, .int .i64 0, .int .i64 0, .int .i64 0, .int .i64 0, .int .i64 0, .int .i64 0]) ?_ 0 _ rfl; (with_reducible repeat (first | refine blk_drewN ?_ _ | refine blk_drew ?_ | refine blk_alloc ?_ _)); exact BK181.out⟩, ⟨by repeat (first | (with_reducible first | exact HB.out | apply below_alloc | apply pw_below_drewN | apply below_drew1 | refine below_set ?_ GE181.out) | exact HB.out)⟩⟩
        · rw [if_neg c14] at H
          have c14b0 : ((Int.tmod (Go.bits .and .i64 a0 65535) 10) == 2) = false := beq_eq_false_iff_ne.mpr c14
          have c14b1 : ((Int.tmod (Go.bits .and .i64 a0 65535) 10) != 2) = true := bne_iff_ne.mpr c14
          by_cases c16 : (Int.tmod (Go.bits .and .i64 a0 65535) 10) = 3
          · rw [if_pos c16] at H
            have c16b0 : ((Int.tmod (Go.bits .and .i64 a0 65535) 10) == 3) = true := beq_iff_eq.mpr c16
            have c16b1 : ((Int.tmod (Go.bits .and .i64 a0 65535) 10) != 3) = false := bne_eq_false_iff_eq.mpr c16
            clear c16
            have H' := Aside0.mk H
            clear H
            have hcz17_0 : w8.cell? ⟨gb181, 0, none⟩ = some (.int .i64 0) := (blk_cell BK181.out 0).trans rfl
            have hcz17_1 : w8.cell? ⟨gb181, 1, none⟩ = some (.int .i64 0) := (blk_cell BK181.out 1).trans rfl
            have hcz17_2 : w8.cell? ⟨gb181, 2, none⟩ = some (.int .i64 0) := (blk_cell BK181.out 2).trans rfl
            have hcz17_3 : w8.cell? ⟨gb181, 3, none⟩ = some (.int .i64 0) := (blk_cell BK181.out 3).trans rfl
            have hcz17_4 : w8.cell? ⟨gb181, 4, none⟩ = some (.int .i64 0) := (blk_cell BK181.out 4).trans rfl
            have hcz17_5 : w8.cell? ⟨gb181, 5, none⟩ = some (.int .i64 0) := (blk_cell BK181.out 5).trans rfl
            have hcz17_6 : w8.cell? ⟨gb181, 6, none⟩ = some (.int .i64 0) := (blk_cell BK181.out 6).trans rfl
            have hcz17_7 : w8.cell? ⟨gb181, 7, none⟩ = some (.int .i64 0) := (blk_cell BK181.out 7).trans rfl
            have hcz17_8 : w8.cell? ⟨gb181, 8, none⟩ = some (.int .i64 0) := (blk_cell BK181.out 8).trans rfl
            have hcz17_9 : w8.cell? ⟨gb181, 9, none⟩ = some (.int .i64 0) := (blk_cell BK181.out 9).trans rfl
            have hfz17_0 := blk_frozen BK181.out 0
            have hfz17_1 := blk_frozen BK181.out 1
            have hfz17_2 := blk_frozen BK181.out 2
            have hfz17_3 := blk_frozen BK181.out 3
            have hfz17_4 := blk_frozen BK181.out 4
            have hfz17_5 := blk_frozen BK181.out 5
            have hfz17_6 := blk_frozen BK181.out 6
            have hfz17_7 := blk_frozen BK181.out 7
            have hfz17_8 := blk_frozen BK181.out 8
            have hfz17_9 := blk_frozen BK181.out 9
            go_wp2
            first | go_meet | (refine Met.intro ?_; go_step; (try rw [c10b0]); (try rw [c12b0]); (try rw [c14b0]); (try rw [c16b0]); (repeat apply Exists.intro); refine ⟨?rel, rfl⟩)
            case rel => exact ⟨_, (0), (1048576), (t171), (t172), (t173), (a1), (t175), (t176), (t177), (t178), (t179), (t180), (by first | rfl | (simp; done) | (simp [*]; done)), (by first | rfl | (simp; done) | (simp [*]; done)), H', ⟨by first | omega | exact Nat.le_refl _⟩, ⟨by (with_reducible repeat (first | refine blk_drewN ?_ _ | refine blk_drew ?_ | refine blk_alloc ?_ _)); refine blk_put (cs := #[.int .i64 t171, .int .i64 t172, .int .i64 t173, .int .i64 t174, .int .i64 t175, .int .i64 t176, .int .i64 t177, .int .i64 t178, .int .i64 t179, .int .i64 t180]) ?_ 3 _ rfl; (with_reducible repeat (first | refine blk_drewN ?_ _ | refine blk_drew ?_ | refine blk_alloc ?_ _)); refine blk_put (cs := #[.int .i64 t171, .int .i64 t172, .int .i64 t173, .int .i64 t174, .int .i64 t175, .int .i64 t176, .int .i64 t177, .int .i64 t178, .int .i64 t179, .int .i64 0]) ?_ 9 _ rfl; (with_reducible repeat (first | refine blk_drewN ?_ _ | refine blk_drew ?_ | refine blk_alloc ?_ _)); refine blk_put (cs := #[.int .i64 t171, .int .i64 t172, .int .i64 t173, .int .i64 t174, .int .i64 t175, .int .i64 t176, .int .i64 t177, .int .i64 t178, .int .i64 0, .int .i64 0]) ?_ 8 _ rfl; (with_reducible repeat (first | refine blk_drewN ?_ _ | refine blk_drew ?_ | refine blk_alloc ?_ _)); refine blk_put (cs := #[.int .i64 t171, .int .i64 t172, .int .i64 t173, .int .i64 t174, .int .i64 t175, .int .i64 t176, .int .i64 t177, .int .i64 0, .int .i64 0, .int .i64 0]) ?_ 7 _ rfl; (with_reducible repeat (first | refine blk_drewN ?_ _ | refine blk_drew ?_ | refine blk_alloc ?_ _)); refine blk_put (cs := #[.int .i64 t171, .int .i64 t172, .int .i64 t173, .int .i64 t174, .int .i64 t175, .int .i64 t176, .int .i64 0, .int .i64 0, .int .i64 0, .int .i64 0]) ?_ 6 _ rfl; (with_reducible repeat (first | refine blk_drewN ?_ _ | refine blk_drew ?_ | refine blk_alloc ?_ _)); refine blk_put (cs := #[.int .i64 t171, .int .i64 t172, .int .i64 t173, .int .i64 t174, .int .i64 t175, .int .i64 0, .int .i64 0, .int .i64 0, .int .i64 0, .int .i64 0]) ?_ 5 _ rfl; (with_reducible repeat (first | refine blk_drewN ?_ _ | refine blk_drew ?_ | refine blk_alloc ?_ _)); refine blk_put (cs := #[.int .i64 t171, .int .i64 t172, .int .i64 t173, .int .i64 t174, .int .i64 0, .int .i64 0, .int .i64 0, .int .i64 0, .int .i64 0, .int .i64 0]) ?_ 4 _ rfl; (with_reducible repeat (first | refine blk_drewN ?_ _ | refine blk_drew ?_ | refine blk_alloc ?_ _)); refine blk_put (cs := #[.int .i64 t171, .int .i64 t172, .int .i64 t173, .int .i64 0, .int .i64 0, .int .i64 0, .int .i64 0, .int .i64 0, .int .i64 0, .int .i64 0]) ?_ 3 _ rfl; (with_reducible repeat (first | refine blk_drewN ?_ _ | refine blk_drew ?_ | refine blk_alloc ?_ _)); refine blk_put (cs := #[.int .i64 t171, .int .i64 t172, .int .i64 0, .int .i64 0, .int .i64 0, .int .i64 0, .int .i64 0, .int .i64 0, .int .i64 0, .int .i64 0]) ?_ 2 _ rfl; (with_reducible repeat (first | refine blk_drewN ?_ _ | refine blk_drew ?_ | refine blk_alloc ?_ _)); refine blk_put (cs := #[.int .i64 t171, .int .i64 0, .int .i64 0, .int .i64 0, .int .i64 0, .int .i64 0, .int .i64 0, .int .i64 0, .int .i64 0, .int .i64 0]) ?_ 1 _ rfl; (with_reducible repeat (first | refine blk_drewN ?_ _ | refine blk_drew ?_ | refine blk_alloc ?_ _)); refine blk_put (cs := #[.int .i64 0, .int .i64 0, .int .i64 0, .int .i64 0, .int .i64 0, .int .i64 0, .int .i64 0, .int .i64 0, .int .i64 0, .int .i64 0]) ?_ 0 _ rfl; (with_reducible repeat (first | refine blk_drewN ?_ _ | refine blk_drew ?_ | refine blk_alloc ?_ _)); exact BK181.out⟩, ⟨by repeat (first | (with_reducible first | exact HB.out | apply below_alloc | apply pw_below_drewN | apply below_drew1 | refine below_set ?_ GE181.out) | exact HB.out)⟩⟩
          · rw [if_neg c16] at H
            have c16b0 : ((Int.tmod (Go.bits .and .i64 a0 65535) 10) == 3) = false := beq_eq_false_iff_ne.mpr c16
            have c16b1 : ((Int.tmod (Go.bits .and .i64 a0 65535) 10) != 3) = true := bne_iff_ne.mpr c16
            by_cases c18 : (Int.tmod (Go.bits .and .i64 a0 65535) 10) = 4
            · rw [if_pos c18] at H
              have c18b0 : ((Int.tmod (Go.bits .and .i64 a0 65535) 10) == 4) = true := beq_iff_eq.mpr c18
              have c18b1 : ((Int.tmod (Go.bits .and .i64 a0 65535) 10) != 4) = false := bne_eq_false_iff_eq.mpr c18
              clear c18
              have H' := Aside0.mk H
              clear H
              have hcz19_0 : w8.cell? ⟨gb181, 0, none⟩ = some (.int .i64 0) := (blk_cell BK181.out 0).trans rfl
              have hcz19_1 : w8.cell? ⟨gb181, 1, none⟩ = some (.int .i64 0) := (blk_cell BK181.out 1).trans rfl
              have hcz19_2 : w8.cell? ⟨gb181, 2, none⟩ = some (.int .i64 0) := (blk_cell BK181.out 2).trans rfl
              have hcz19_3 : w8.cell? ⟨gb181, 3, none⟩ = some (.int .i64 0) := (blk_cell BK181.out 3).trans rfl
              have hcz19_4 : w8.cell? ⟨gb181, 4, none⟩ = some (.int .i64 0) := (blk_cell BK181.out 4).trans rfl
              have hcz19_5 : w8.cell? ⟨gb181, 5, none⟩ = some (.int .i64 0) := (blk_cell BK181.out 5).trans rfl
              have hcz19_6 : w8.cell? ⟨gb181, 6, none⟩ = some (.int .i64 0) := (blk_cell BK181.out 6).trans rfl
              have hcz19_7 : w8.cell? ⟨gb181, 7, none⟩ = some (.int .i64 0) := (blk_cell BK181.out 7).trans rfl
              have hcz19_8 : w8.cell? ⟨gb181, 8, none⟩ = some (.int .i64 0) := (blk_cell BK181.out 8).trans rfl
              have hcz19_9 : w8.cell? ⟨gb181, 9, none⟩ = some (.int .i64 0) := (blk_cell BK181.out 9).trans rfl
              have hfz19_0 := blk_frozen BK181.out 0
              have hfz19_1 := blk_frozen BK181.out 1
              have hfz19_2 := blk_frozen BK181.out 2
              have hfz19_3 := blk_frozen BK181.out 3
              have hfz19_4 := blk_frozen BK181.out 4
              have hfz19_5 := blk_frozen BK181.out 5
              have hfz19_6 := blk_frozen BK181.out 6
              have hfz19_7 := blk_frozen BK181.out 7
              have hfz19_8 := blk_frozen BK181.out 8
              have hfz19_9 := blk_frozen BK181.out 9
              go_wp2
              first | go_meet | (refine Met.intro ?_; go_step; (try rw [c10b0]); (try rw [c12b0]); (try rw [c14b0]); (try rw [c16b0]); (try rw [c18b0]); (repeat apply Exists.intro); refine ⟨?rel, rfl⟩)
              case rel => exact ⟨_, (1), (1048576), (t171), (t172), (t173), (t174), (a1), (t176), (t177), (t178), (t179), (t180), (by first | rfl | (simp; done) | (simp [*]; done)), (by first | rfl | (simp; done) | (simp [*]; done)), H', ⟨by first | omega | exact Nat.le_refl _⟩, ⟨by (with_reducible repeat (first | refine blk_drewN ?_ _ | refine blk_drew ?_ | refine blk_alloc ?_ _)); refine blk_put (cs := #[.int .i64 t171, .int .i64 t172, .int .i64 t173, .int .i64 t174, .int .i64 t175, .int .i64 t176, .int .i64 t177, .int .i64 t178, .int .i64 t179, .int .i64 t180]) ?_ 4 _ rfl; (with_reducible repeat (first | refine blk_drewN ?_ _ | refine blk_drew ?_ | refine blk_alloc ?_ _)); refine blk_put (cs := #[.int .i64 t171, .int .i64 t172, .int .i64 t173, .int .i64 t174, .int .i64 t175, .int .i64 t176, .int .i64 t177, .int .i64 t178, .int .i64 t179, .int .i64 0]) ?_ 9 _ rfl; (with_reducible repeat (first | refine blk_drewN ?_ _ | refine blk_drew ?_ | refine blk_alloc ?_ _)); refine blk_put (cs := #[.int .i64 t171, .int .i64 t172, .int .i64 t173, .int .i64 t174, .int .i64 t175, .int .i64 t176, .int .i64 t177, .int .i64 t178, .int .i64 0, .int .i64 0]) ?_ 8 _ rfl; (with_reducible repeat (first | refine blk_drewN ?_ _ | refine blk_drew ?_ | refine blk_alloc ?_ _)); refine blk_put (cs := #[.int .i64 t171, .int .i64 t172, .int .i64 t173, .int .i64 t174, .int .i64 t175, .int .i64 t176, .int .i64 t177, .int .i64 0, .int .i64 0, .int .i64 0]) ?_ 7 _ rfl; (with_reducible repeat (first | refine blk_drewN ?_ _ | refine blk_drew ?_ | refine blk_alloc ?_ _)); refine blk_put (cs := #[.int .i64 t171, .int .i64 t172, .int .i64 t173, .int .i64 t174, .int .i64 t175, .int .i64 t176, .int .i64 0, .int .i64 0, .int .i64 0, .int .i64 0]) ?_ 6 _ rfl; (with_reducible repeat (first | refine blk_drewN ?_ _ | refine blk_drew ?_ | refine blk_alloc ?_ _)); refine blk_put (cs := #[.int .i64 t171, .int .i64 t172, .int .i64 t173, .int .i64 t174, .int .i64 t175, .int .i64 0, .int .i64 0, .int .i64 0, .int .i64 0, .int .i64 0]) ?_ 5 _ rfl; (with_reducible repeat (first | refine blk_drewN ?_ _ | refine blk_drew ?_ | refine blk_alloc ?_ _)); refine blk_put (cs := #[.int .i64 t171, .int .i64 t172, .int .i64 t173, .int .i64 t174, .int .i64 0, .int .i64 0, .int .i64 0, .int .i64 0, .int .i64 0, .int .i64 0]) ?_ 4 _ rfl; (with_reducible repeat (first | refine blk_drewN ?_ _ | refine blk_drew ?_ | refine blk_alloc ?_ _)); refine blk_put (cs := #[.int .i64 t171, .int .i64 t172, .int .i64 t173, .int .i64 0, .int .i64 0, .int .i64 0, .int .i64 0, .int .i64 0, .int .i64 0, .int .i64 0]) ?_ 3 _ rfl; (with_reducible repeat (first | refine blk_drewN ?_ _ | refine blk_drew ?_ | refine blk_alloc ?_ _)); refine blk_put (cs := #[.int .i64 t171, .int .i64 t172, .int .i64 0, .int .i64 0, .int .i64 0, .int .i64 0, .int .i64 0, .int .i64 0, .int .i64 0, .int .i64 0]) ?_ 2 _ rfl; (with_reducible repeat (first | refine blk_drewN ?_ _ | refine blk_drew ?_ | refine blk_alloc ?_ _)); refine blk_put (cs := #[.int .i64 t171, .int .i64 0, .int .i64 0, .int .i64 0, .int .i64 0, .int .i64 0, .int .i64 0, .int .i64 0, .int .i64 0, .int .i64 0]) ?_ 1 _ rfl; (with_reducible repeat (first | refine blk_drewN ?_ _ | refine blk_drew ?_ | refine blk_alloc ?_ _)); refine blk_put (cs := #[.int .i64 0, .int .i64 0, .int .i64 0, .int .i64 0, .int .i64 0, .int .i64 0, .int .i64 0, .int .i64 0, .int .i64 0, .int .i64 0]) ?_ 0 _ rfl; (with_reducible repeat (first | refine blk_drewN ?_ _ | refine blk_drew ?_ | refine blk_alloc ?_ _)); exact BK181.out⟩, ⟨by repeat (first | (with_reducible first | exact HB.out | apply below_alloc | apply pw_below_drewN | apply below_drew1 | refine below_set ?_ GE181.out) | exact HB.out)⟩⟩
            · rw [if_neg c18] at H
              have c18b0 : ((Int.tmod (Go.bits .and .i64 a0 65535) 10) == 4) = false := beq_eq_false_iff_ne.mpr c18
              have c18b1 : ((Int.tmod (Go.bits .and .i64 a0 65535) 10) != 4) = true := bne_iff_ne.mpr c18
              by_cases c20 : (Int.tmod (Go.bits .and .i64 a0 65535) 10) = 5
              · rw [if_pos c20] at H
                have c20b0 : ((Int.tmod (Go.bits .and .i64 a0 65535) 10) == 5) = true := beq_iff_eq.mpr c20
                have c20b1 : ((Int.tmod (Go.bits .and .i64 a0 65535) 10) != 5) = false := bne_eq_false_iff_eq.mpr c20
                clear c20
                have H' := Aside0.mk H
                clear H
                have hcz21_0 : w8.cell? ⟨gb181, 0, none⟩ = some (.int .i64 0) := (blk_cell BK181.out 0).trans rfl
                have hcz21_1 : w8.cell? ⟨gb181, 1, none⟩ = some (.int .i64 0) := (blk_cell BK181.out 1).trans rfl
                have hcz21_2 : w8.cell? ⟨gb181, 2, none⟩ = some (.int .i64 0) := (blk_cell BK181.out 2).trans rfl
                have hcz21_3 : w8.cell? ⟨gb181, 3, none⟩ = some (.int .i64 0) := (blk_cell BK181.out 3).trans rfl
                have hcz21_4 : w8.cell? ⟨gb181, 4, none⟩ = some (.int .i64 0) := (blk_cell BK181.out 4).trans rfl
                have hcz21_5 : w8.cell? ⟨gb181, 5, none⟩ = some (.int .i64 0) := (blk_cell BK181.out 5).trans rfl
                have hcz21_6 : w8.cell? ⟨gb181, 6, none⟩ = some (.int .i64 0) := (blk_cell BK181.out 6).trans rfl
                have hcz21_7 : w8.cell? ⟨gb181, 7, none⟩ = some (.int .i64 0) := (blk_cell BK181.out 7).trans rfl
                have hcz21_8 : w8.cell? ⟨gb181, 8, none⟩ = some (.int .i64 0) := (blk_cell BK181.out 8).trans rfl
                have hcz21_9 : w8.cell? ⟨gb181, 9, none⟩ = some (.int .i64 0) := (blk_cell BK181.out 9).trans rfl
                have hfz21_0 := blk_frozen BK181.out 0
                have hfz21_1 := blk_frozen BK181.out 1
                have hfz21_2 := blk_frozen BK181.out 2
                have hfz21_3 := blk_frozen BK181.out 3
                have hfz21_4 := blk_frozen BK181.out 4
                have hfz21_5 := blk_frozen BK181.out 5
                have hfz21_6 := blk_frozen BK181.out 6
                have hfz21_7 := blk_frozen BK181.out 7
                have hfz21_8 := blk_frozen BK181.out 8
                have hfz21_9 := blk_frozen BK181.out 9
                go_wp2
                first | go_meet | (refine Met.intro ?_; go_step; (try rw [c10b0]); (try rw [c12b0]); (try rw [c14b0]); (try rw [c16b0]); (try rw [c18b0]); (try rw [c20b0]); (repeat apply Exists.intro); refine ⟨?rel, rfl⟩)
                case rel => exact ⟨_, (0), (1048576), (t171), (t172), (t173), (t174), (t175), (a1), (t177), (t178), (t179), (t180), (by first | rfl | (simp; done) | (simp [*]; done)), (by first | rfl | (simp; done) | (simp [*]; done)), H', ⟨by first | omega | exact Nat.le_refl _⟩, ⟨by (with_reducible repeat (first | refine blk_drewN ?_ _ | refine blk_drew ?_ | refine blk_alloc ?_ _)); refine blk_put (cs := #[.int .i64 t171, .int .i64 t172, .int .i64 t173, .int .i64 t174, .int .i64 t175, .int .i64 t176, .int .i64 t177, .int .i64 t178, .int .i64 t179, .int .i64 t180]) ?_ 5 _ rfl; (with_reducible repeat (first | refine blk_drewN ?_ _ | refine blk_drew ?_ | refine blk_alloc ?_ _)); refine blk_put (cs := #[.int .i64 t171, .int .i64 t172, .int .i64 t173, .int .i64 t174, .int .i64 t175, .int .i64 t176, .int .i64 t177, .int .i64 t178, .int .i64 t179, .int .i64 0]) ?_ 9 _ rfl; (with_reducible repeat (first | refine blk_drewN ?_ _ | refine blk_drew ?_ | refine blk_alloc ?_ _)); refine blk_put (cs := #[.int .i64 t171, .int .i64 t172, .int .i64 t173, .int .i64 t174, .int .i64 t175, .int .i64 t176, .int .i64 t177, .int .i64 t178, .int .i64 0, .int .i64 0]) ?_ 8 _ rfl; (with_reducible repeat (first | refine blk_drewN ?_ _ | refine blk_drew ?_ | refine blk_alloc ?_ _)); refine blk_put (cs := #[.int .i64 t171, .int .i64 t172, .int .i64 t173, .int .i64 t174, .int .i64 t175, .int .i64 t176, .int .i64 t177, .int .i64 0, .int .i64 0, .int .i64 0]) ?_ 7 _ rfl; (with_reducible repeat (first | refine blk_drewN ?_ _ | refine blk_drew ?_ | refine blk_alloc ?_ _)); refine blk_put (cs := #[.int .i64 t171, .int .i64 t172, .int .i64 t173, .int .i64 t174, .int .i64 t175, .int .i64 t176, .int .i64 0, .int .i64 0, .int .i64 0, .int .i64 0]) ?_ 6 _ rfl; (with_reducible repeat (first | refine blk_drewN ?_ _ | refine blk_drew ?_ | refine blk_alloc ?_ _)); refine blk_put (cs := #[.int .i64 t171, .int .i64 t172, .int .i64 t173, .int .i64 t174, .int .i64 t175, .int .i64 0, .int .i64 0, .int .i64 0, .int .i64 0, .int .i64 0]) ?_ 5 _ rfl; (with_reducible repeat (first | refine blk_drewN ?_ _ | refine blk_drew ?_ | refine blk_alloc ?_ _)); refine blk_put (cs := #[.int .i64 t171, .int .i64 t172, .int .i64 t173, .int .i64 t174, .int .i64 0, .int .i64 0, .int .i64 0, .int .i64 0, .int .i64 0, .int .i64 0]) ?_ 4 _ rfl; (with_reducible repeat (first | refine blk_drewN ?_ _ | refine blk_drew ?_ | refine blk_alloc ?_ _)); refine blk_put (cs := #[.int .i64 t171, .int .i64 t172, .int .i64 t173, .int .i64 0, .int .i64 0, .int .i64 0, .int .i64 0, .int .i64 0, .int .i64 0, .int .i64 0]) ?_ 3 _ rfl; (with_reducible repeat (first | refine blk_drewN ?_ _ | refine blk_drew ?_ | refine blk_alloc ?_ _)); refine blk_put (cs := #[.int .i64 t171, .int .i64 t172, .int .i64 0, .int .i64 0, .int .i64 0, .int .i64 0, .int .i64 0, .int .i64 0, .int .i64 0, .int .i64 0]) ?_ 2 _ rfl; (with_reducible repeat (first | refine blk_drewN ?_ _ | refine blk_drew ?_ | refine blk_alloc ?_ _)); refine blk_put (cs := #[.int .i64 t171, .int .i64 0, .int .i64 0, .int .i64 0, .int .i64 0, .int .i64 0, .int .i64 0, .int .i64 0, .int .i64 0, .int .i64 0]) ?_ 1 _ rfl; (with_reducible repeat (first | refine blk_drewN ?_ _ | refine blk_drew ?_ | refine blk_alloc ?_ _)); refine blk_put (cs := #[.int .i64 0, .int .i64 0, .int .i64 0, .int .i64 0, .int .i64 0, .int .i64 0, .int .i64 0, .int .i64 0, .int .i64 0, .int .i64 0]) ?_ 0 _ rfl; (with_reducible repeat (first | refine blk_drewN ?_ _ | refine blk_drew ?_ | refine blk_alloc ?_ _)); exact BK181.out⟩, ⟨by repeat (first | (with_reducible first | exact HB.out | apply below_alloc | apply pw_below_drewN | apply below_drew1 | refine below_set ?_ GE181.out) | exact HB.out)⟩⟩
              · rw [if_neg c20] at H
                have c20b0 : ((Int.tmod (Go.bits .and .i64 a0 65535) 10) == 5) = false := beq_eq_false_iff_ne.mpr c20
                have c20b1 : ((Int.tmod (Go.bits .and .i64 a0 65535) 10) != 5) = true := bne_iff_ne.mpr c20
                by_cases c22 : (Int.tmod (Go.bits .and .i64 a0 65535) 10) = 6
                · rw [if_pos c22] at H
                  have c22b0 : ((Int.tmod (Go.bits .and .i64 a0 65535) 10) == 6) = true := beq_iff_eq.mpr c22
                  have c22b1 : ((Int.tmod (Go.bits .and .i64 a0 65535) 10) != 6) = false := bne_eq_false_iff_eq.mpr c22
                  clear c22
                  have H' := Aside0.mk H
                  clear H
                  have hcz23_0 : w8.cell? ⟨gb181, 0, none⟩ = some (.int .i64 0) := (blk_cell BK181.out 0).trans rfl
                  have hcz23_1 : w8.cell? ⟨gb181, 1, none⟩ = some (.int .i64 0) := (blk_cell BK181.out 1).trans rfl
                  have hcz23_2 : w8.cell? ⟨gb181, 2, none⟩ = some (.int .i64 0) := (blk_cell BK181.out 2).trans rfl
                  have hcz23_3 : w8.cell? ⟨gb181, 3, none⟩ = some (.int .i64 0) := (blk_cell BK181.out 3).trans rfl
                  have hcz23_4 : w8.cell? ⟨gb181, 4, none⟩ = some (.int .i64 0) := (blk_cell BK181.out 4).trans rfl
                  have hcz23_5 : w8.cell? ⟨gb181, 5, none⟩ = some (.int .i64 0) := (blk_cell BK181.out 5).trans rfl
                  have hcz23_6 : w8.cell? ⟨gb181, 6, none⟩ = some (.int .i64 0) := (blk_cell BK181.out 6).trans rfl
                  have hcz23_7 : w8.cell? ⟨gb181, 7, none⟩ = some (.int .i64 0) := (blk_cell BK181.out 7).trans rfl
                  have hcz23_8 : w8.cell? ⟨gb181, 8, none⟩ = some (.int .i64 0) := (blk_cell BK181.out 8).trans rfl
                  have hcz23_9 : w8.cell? ⟨gb181, 9, none⟩ = some (.int .i64 0) := (blk_cell BK181.out 9).trans rfl
                  have hfz23_0 := blk_frozen BK181.out 0
                  have hfz23_1 := blk_frozen BK181.out 1
                  have hfz23_2 := blk_frozen BK181.out 2
                  have hfz23_3 := blk_frozen BK181.out 3
                  have hfz23_4 := blk_frozen BK181.out 4
                  have hfz23_5 := blk_frozen BK181.out 5
                  have hfz23_6 := blk_frozen BK181.out 6
                  have hfz23_7 := blk_frozen BK181.out 7
                  have hfz23_8 := blk_frozen BK181.out 8
                  have hfz23_9 := blk_frozen BK181.out 9
                  go_wp2
                  first | go_meet | (refine Met.intro ?_; go_step; (try rw [c10b0]); (try rw [c12b0]); (try rw [c14b0]); (try rw [c16b0]); (try rw [c18b0]); (try rw [c20b0]); (try rw [c22b0]); (repeat apply Exists.intro); refine ⟨?rel, rfl⟩)
                  case rel => exact ⟨_, (1), (1048576), (t171), (t172), (t173), (t174), (t175), (t176), (a1), (t178), (t179), (t180), (by first | rfl | (simp; done) | (simp [*]; done)), (by first | rfl | (simp; done) | (simp [*]; done)), H', ⟨by first | omega | exact Nat.le_refl _⟩, ⟨by (with_reducible repeat (first | refine blk_drewN ?_ _ | refine blk_drew ?_ | refine blk_alloc ?_ _)); refine blk_put (cs := #[.int .i64 t171, .int .i64 t172, .int .i64 t173, .int .i64 t174, .int .i64 t175, .int .i64 t176, .int .i64 t177, .int .i64 t178, .int .i64 t179, .int .i64 t180]) ?_ 6 _ rfl; (with_reducible repeat (first | refine blk_drewN ?_ _ | refine blk_drew ?_ | refine blk_alloc ?_ _)); refine blk_put (cs := #[.int .i64 t171, .int .i64 t172, .int .i64 t173, .int .i64 t174, .int .i64 t175, .int .i64 t176, .int .i64 t177, .int .i64 t178, .int .i64 t179, .int .i64 0]) ?_ 9 _ rfl; (with_reducible repeat (first | refine blk_drewN ?_ _ | refine blk_drew ?_ | refine blk_alloc ?_ _)); refine blk_put (cs := #[.int .i64 t171, .int .i64 t172, .int .i64 t173, .int .i64 t174, .int .i64 t175, .int .i64 t176, .int .i64 t177, .int .i64 t178, .int .i64 0, .int .i64 0]) ?_ 8 _ rfl; (with_reducible repeat (first | refine blk_drewN ?_ _ | refine blk_drew ?_ | refine blk_alloc ?_ _)); refine blk_put (cs := #[.int .i64 t171, .int .i64 t172, .int .i64 t173, .int .i64 t174, .int .i64 t175, .int .i64 t176, .int .i64 t177, .int .i64 0, .int .i64 0, .int .i64 0]) ?_ 7 _ rfl; (with_reducible repeat (first | refine blk_drewN ?_ _ | refine blk_drew ?_ | refine blk_alloc ?_ _)); refine blk_put (cs := #[.int .i64 t171, .int .i64 t172, .int .i64 t173, .int .i64 t174, .int .i64 t175, .int .i64 t176, .int .i64 0, .int .i64 0, .int .i64 0, .int .i64 0]) ?_ 6 _ rfl; (with_reducible repeat (first | refine blk_drewN ?_ _ | refine blk_drew ?_ | refine blk_alloc ?_ _)); refine blk_put (cs := #[.int .i64 t171, .int .i64 t172, .int .i64 t173, .int .i64 t174, .int .i64 t175, .int .i64 0, .int .i64 0, .int .i64 0, .int .i64 0, .int .i64 0]) ?_ 5 _ rfl; (with_reducible repeat (first | refine blk_drewN ?_ _ | refine blk_drew ?_ | refine blk_alloc ?_ _)); refine blk_put (cs := #[.int .i64 t171, .int .i64 t172, .int .i64 t173, .int .i64 t174, .int .i64 0, .int .i64 0, .int .i64 0, .int .i64 0, .int .i64 0, .int .i64 0]) ?_ 4 _ rfl; (with_reducible repeat (first | refine blk_drewN ?_ _ | refine blk_drew ?_ | refine blk_alloc ?_ _)); refine blk_put (cs := #[.int .i64 t171, .int .i64 t172, .int .i64 t173, .int .i64 0, .int .i64 0, .int .i64 0, .int .i64 0, .int .i64 0, .int .i64 0, .int .i64 0]) ?_ 3 _ rfl; (with_reducible repeat (first | refine blk_drewN ?_ _ | refine blk_drew ?_ | refine blk_alloc ?_ _)); refine blk_put (cs := #[.int .i64 t171, .int .i64 t172, .int .i64 0, .int .i64 0, .int .i64 0, .int .i64 0, .int .i64 0, .int .i64 0, .int .i64 0, .int .i64 0]) ?_ 2 _ rfl; (with_reducible repeat (first | refine blk_drewN ?_ _ | refine blk_drew ?_ | refine blk_alloc ?_ _)); refine blk_put (cs := #[.int .i64 t171, .int .i64 0, .int .i64 0, .int .i64 0, .int .i64 0, .int .i64 0, .int .i64 0, .int .i64 0, .int .i64 0, .int .i64 0]) ?_ 1 _ rfl; (with_reducible repeat (first | refine blk_drewN ?_ _ | refine blk_drew ?_ | refine blk_alloc ?_ _)); refine blk_put (cs := #[.int .i64 0, .int .i64 0, .int .i64 0, .int .i64 0, .int .i64 0, .int .i64 0, .int .i64 0, .int .i64 0, .int .i64 0, .int .i64 0]) ?_ 0 _ rfl; (with_reducible repeat (first | refine blk_drewN ?_ _ | refine blk_drew ?_ | refine blk_alloc ?_ _)); exact BK181.out⟩, ⟨by repeat (first | (with_reducible first | exact HB.out | apply below_alloc | apply pw_below_drewN | apply below_drew1 | refine below_set ?_ GE181.out) | exact HB.out)⟩⟩
                · rw [if_neg c22] at H
                  have c22b0 : ((Int.tmod (Go.bits .and .i64 a0 65535) 10) == 6) = false := beq_eq_false_iff_ne.mpr c22
                  have c22b1 : ((Int.tmod (Go.bits .and .i64 a0 65535) 10) != 6) = true := bne_iff_ne.mpr c22
                  by_cases c24 : (Int.tmod (Go.bits .and .i64 a0 65535) 10) = 7
                  · rw [if_pos c24] at H
                    have c24b0 : ((Int.tmod (Go.bits .and .i64 a0 65535) 10) == 7) = true := beq_iff_eq.mpr c24
                    have c24b1 : ((Int.tmod (Go.bits .and .i64 a0 65535) 10) != 7) = false := bne_eq_false_iff_eq.mpr c24
                    clear c24
                    have H' := Aside0.mk H
                    clear H
                    have hcz25_0 : w8.cell? ⟨gb181, 0, none⟩ = some (.int .i64 0) := (blk_cell BK181.out 0).trans rfl
                    have hcz25_1 : w8.cell? ⟨gb181, 1, none⟩ = some (.int .i64 0) := (blk_cell BK181.out 1).trans rfl
                    have hcz25_2 : w8.cell? ⟨gb181, 2, none⟩ = some (.int .i64 0) := (blk_cell BK181.out 2).trans rfl
                    have hcz25_3 : w8.cell? ⟨gb181, 3, none⟩ = some (.int .i64 0) := (blk_cell BK181.out 3).trans rfl
                    have hcz25_4 : w8.cell? ⟨gb181, 4, none⟩ = some (.int .i64 0) := (blk_cell BK181.out 4).trans rfl
                    have hcz25_5 : w8.cell? ⟨gb181, 5, none⟩ = some (.int .i64 0) := (blk_cell BK181.out 5).trans rfl
                    have hcz25_6 : w8.cell? ⟨gb181, 6, none⟩ = some (.int .i64 0) := (blk_cell BK181.out 6).trans rfl
                    have hcz25_7 : w8.cell? ⟨gb181, 7, none⟩ = some (.int .i64 0) := (blk_cell BK181.out 7).trans rfl
                    have hcz25_8 : w8.cell? ⟨gb181, 8, none⟩ = some (.int .i64 0) := (blk_cell BK181.out 8).trans rfl
                    have hcz25_9 : w8.cell? ⟨gb181, 9, none⟩ = some (.int .i64 0) := (blk_cell BK181.out 9).trans rfl
                    have hfz25_0 := blk_frozen BK181.out 0
                    have hfz25_1 := blk_frozen BK181.out 1
                    have hfz25_2 := blk_frozen BK181.out 2
                    have hfz25_3 := blk_frozen BK181.out 3
                    have hfz25_4 := blk_frozen BK181.out 4
                    have hfz25_5 := blk_frozen BK181.out 5
                    have hfz25_6 := blk_frozen BK181.out 6
                    have hfz25_7 := blk_frozen BK181.out 7
                    have hfz25_8 := blk_frozen BK181.out 8
                    have hfz25_9 := blk_frozen BK181.out 9
                    go_wp2
                    first | go_meet | (refine Met.intro ?_; go_step; (try rw [c10b0]); (try rw [c12b0]); (try rw [c14b0]); (try rw [c16b0]); (try rw [c18b0]); (try rw [c20b0]); (try rw [c22b0]); (try rw [c24b0]); (repeat apply Exists.intro); refine ⟨?rel, rfl⟩)
                    case rel => exact ⟨_, (1), (1048576), (t171), (t172), (t173), (t174), (t175), (t176), (t177), (a1), (t179), (t180), (by first | rfl | (simp; done) | (simp [*]; done)), (by first | rfl | (simp; done) | (simp [*]; done)), H', ⟨by first | omega | exact Nat.le_refl _⟩, ⟨by (with_reducible repeat (first | refine blk_drewN ?_ _ | refine blk_drew ?_ | refine blk_alloc ?_ _)); refine blk_put (cs := #[.int .i64 t171, .int .i64 t172, .int .i64 t173, .int .i64 t174, .int .i64 t175, .int .i64 t176, .int .i64 t177, .int .i64 t178, .int .i64 t179, .int .i64 t180]) ?_ 7 _ rfl; (with_reducible repeat (first | refine blk_drewN ?_ _ | refine blk_drew ?_ | refine blk_alloc ?_ _)); refine blk_put (cs := #[.int .i64 t171, .int .i64 t172, .int .i64 t173, .int .i64 t174, .int .i64 t175, .int .i64 t176, .int .i64 t177, .int .i64 t178, .int .i64 t179, .int .i64 0]) ?_ 9 _ rfl; (with_reducible repeat (first | refine blk_drewN ?_ _ | refine blk_drew ?_ | refine blk_alloc ?_ _)); refine blk_put (cs := #[.int .i64 t171, .int .i64 t172, .int .i64 t173, .int .i64 t174, .int .i64 t175, .int .i64 t176, .int .i64 t177, .int .i64 t178, .int .i64 0, .int .i64 0]) ?_ 8 _ rfl; (with_reducible repeat (first | refine blk_drewN ?_ _ | refine blk_drew ?_ | refine blk_alloc ?_ _)); refine blk_put (cs := #[.int .i64 t171, .int .i64 t172, .int .i64 t173, .int .i64 t174, .int .i64 t175, .int .i64 t176, .int .i64 t177, .int .i64 0, .int .i64 0, .int .i64 0]) ?_ 7 _ rfl; (with_reducible repeat (first | refine blk_drewN ?_ _ | refine blk_drew ?_ | refine blk_alloc ?_ _)); refine blk_put (cs := #[.int .i64 t171, .int .i64 t172, .int .i64 t173, .int .i64 t174, .int .i64 t175, .int .i64 t176, .int .i64 0, .int .i64 0, .int .i64 0, .int .i64 0]) ?_ 6 _ rfl; (with_reducible repeat (first | refine blk_drewN ?_ _ | refine blk_drew ?_ | refine blk_alloc ?_ _)); refine blk_put (cs := #[.int .i64 t171, .int .i64 t172, .int .i64 t173, .int .i64 t174, .int .i64 t175, .int .i64 0, .int .i64 0, .int .i64 0, .int .i64 0, .int .i64 0]) ?_ 5 _ rfl; (with_reducible repeat (first | refine blk_drewN ?_ _ | refine blk_drew ?_ | refine blk_alloc ?_ _)); refine blk_put (cs := #[.int .i64 t171, .int .i64 t172, .int .i64 t173, .int .i64 t174, .int .i64 0, .int .i64 0, .int .i64 0, .int .i64 0, .int .i64 0, .int .i64 0]) ?_ 4 _ rfl; (with_reducible repeat (first | refine blk_drewN ?_ _ | refine blk_drew ?_ | refine blk_alloc ?_ _)); refine blk_put (cs := #[.int .i64 t171, .int .i64 t172, .int .i64 t173, .int .i64 0, .int .i64 0, .int .i64 0, .int .i64 0, .int .i64 0, .int .i64 0, .int .i64 0]) ?_ 3 _ rfl; (with_reducible repeat (first | refine blk_drewN ?_ _ | refine blk_drew ?_ | refine blk_alloc ?_ _)); refine blk_put (cs := #[.int .i64 t171, .int .i64 t172, .int .i64 0, .int .i64 0, .int .i64 0, .int .i64 0, .int .i64 0, .int .i64 0, .int .i64 0, .int .i64 0]) ?_ 2 _ rfl; (with_reducible repeat (first | refine blk_drewN ?_ _ | refine blk_drew ?_ | refine blk_alloc ?_ _)); refine blk_put (cs := #[.int .i64 t171, .int .i64 0, .int .i64 0, .int .i64 0, .int .i64 0, .int .i64 0, .int .i64 0, .int .i64 0, .int .i64 0, .int .i64 0]) ?_ 1 _ rfl; (with_reducible repeat (first | refine blk_drewN ?_ _ | refine blk_drew ?_ | refine blk_alloc ?_ _)); refine blk_put (cs := #[.int .i64 0, .int .i64 0, .int .i64 0, .int .i64 0, .int .i64 0, .int .i64 0, .int .i64 0, .int .i64 0, .int .i64 0, .int .i64 0]) ?_ 0 _ rfl; (with_reducible repeat (first | refine blk_drewN ?_ _ | refine blk_drew ?_ | refine blk_alloc ?_ _)); exact BK181.out⟩, ⟨by repeat (first | (with_reducible first | exact HB.out | apply below_alloc | apply pw_below_drewN | apply below_drew1 | refine below_set ?_ GE181.out) | exact HB.out)⟩⟩
                  · rw [if_neg c24] at H
                    have c24b0 : ((Int.tmod (Go.bits .and .i64 a0 65535) 10) == 7) = false := beq_eq_false_iff_ne.mpr c24
                    have c24b1 : ((Int.tmod (Go.bits .and .i64 a0 65535) 10) != 7) = true := bne_iff_ne.mpr c24
                    by_cases c26 : (Int.tmod (Go.bits .and .i64 a0 65535) 10) = 8
                    · rw [if_pos c26] at H
                      have c26b0 : ((Int.tmod (Go.bits .and .i64 a0 65535) 10) == 8) = true := beq_iff_eq.mpr c26
                      have c26b1 : ((Int.tmod (Go.bits .and .i64 a0 65535) 10) != 8) = false := bne_eq_false_iff_eq.mpr c26
                      clear c26
                      have H' := Aside0.mk H
                      clear H
                      have hcz27_0 : w8.cell? ⟨gb181, 0, none⟩ = some (.int .i64 0) := (blk_cell BK181.out 0).trans rfl
                      have hcz27_1 : w8.cell? ⟨gb181, 1, none⟩ = some (.int .i64 0) := (blk_cell BK181.out 1).trans rfl
                      have hcz27_2 : w8.cell? ⟨gb181, 2, none⟩ = some (.int .i64 0) := (blk_cell BK181.out 2).trans rfl
                      have hcz27_3 : w8.cell? ⟨gb181, 3, none⟩ = some (.int .i64 0) := (blk_cell BK181.out 3).trans rfl
                      have hcz27_4 : w8.cell? ⟨gb181, 4, none⟩ = some (.int .i64 0) := (blk_cell BK181.out 4).trans rfl
                      have hcz27_5 : w8.cell? ⟨gb181, 5, none⟩ = some (.int .i64 0) := (blk_cell BK181.out 5).trans rfl
                      have hcz27_6 : w8.cell? ⟨gb181, 6, none⟩ = some (.int .i64 0) := (blk_cell BK181.out 6).trans rfl
                      have hcz27_7 : w8.cell? ⟨gb181, 7, none⟩ = some (.int .i64 0) := (blk_cell BK181.out 7).trans rfl
                      have hcz27_8 : w8.cell? ⟨gb181, 8, none⟩ = some (.int .i64 0) := (blk_cell BK181.out 8).trans rfl
                      have hcz27_9 : w8.cell? ⟨gb181, 9, none⟩ = some (.int .i64 0) := (blk_cell BK181.out 9).trans rfl
                      have hfz27_0 := blk_frozen BK181.out 0
                      have hfz27_1 := blk_frozen BK181.out 1
                      have hfz27_2 := blk_frozen BK181.out 2
                      have hfz27_3 := blk_frozen BK181.out 3
                      have hfz27_4 := blk_frozen BK181.out 4
                      have hfz27_5 := blk_frozen BK181.out 5
                      have hfz27_6 := blk_frozen BK181.out 6
                      have hfz27_7 := blk_frozen BK181.out 7
                      have hfz27_8 := blk_frozen BK181.out 8
                      have hfz27_9 := blk_frozen BK181.out 9
                      go_wp2
                      first | go_meet | (refine Met.intro ?_; go_step; (try rw [c10b0]); (try rw [c12b0]); (try rw [c14b0]); (try rw [c16b0]); (try rw [c18b0]); (try rw [c20b0]); (try rw [c22b0]); (try rw [c24b0]); (try rw [c26b0]); (repeat apply Exists.intro); refine ⟨?rel, rfl⟩)
                      case rel => exact ⟨_, (1), (1048576), (t171), (t172), (t173), (t174), (t175), (t176), (t177), (t178), (a1), (t180), (by first | rfl | (simp; done) | (simp [*]; done)), (by first | rfl | (simp; done) | (simp [*]; done)), H', ⟨by first | omega | exact Nat.le_refl _⟩, ⟨by (with_reducible repeat (first | refine blk_drewN ?_ _ | refine blk_drew ?_ | refine blk_alloc ?_ _)); refine blk_put (cs := #[.int .i64 t171, .int .i64 t172, .int .i64 t173, .int .i64 t174, .int .i64 t175, .int .i64 t176, .int .i64 t177, .int .i64 t178, .int .i64 t179, .int .i64 t180]) ?_ 8 _ rfl; (with_reducible repeat (first | refine blk_drewN ?_ _ | refine blk_drew ?_ | refine blk_alloc ?_ _)); refine blk_put (cs := #[.int .i64 t171, .int .i64 t172, .int .i64 t173, .int .i64 t174, .int .i64 t175, .int .i64 t176, .int .i64 t177, .int .i64 t178, .int .i64 t179, .int .i64 0]) ?_ 9 _ rfl; (with_reducible repeat (first | refine blk_drewN ?_ _ | refine blk_drew ?_ | refine blk_alloc ?_ _)); refine blk_put (cs := #[.int .i64 t171, .int .i64 t172, .int .i64 t173, .int .i64 t174, .int .i64 t175, .int .i64 t176, .int .i64 t177, .int .i64 t178, .int .i64 0, .int .i64 0]) ?_ 8 _ rfl; (with_reducible repeat (first | refine blk_drewN ?_ _ | refine blk_drew ?_ | refine blk_alloc ?_ _)); refine blk_put (cs := #[.int .i64 t171, .int .i64 t172, .int .i64 t173, .int .i64 t174, .int .i64 t175, .int .i64 t176, .int .i64 t177, .int .i64 0, .int .i64 0, .int .i64 0]) ?_ 7 _ rfl; (with_reducible repeat (first | refine blk_drewN ?_ _ | refine blk_drew ?_ | refine blk_alloc ?_ _)); refine blk_put (cs := #[.int .i64 t171, .int .i64 t172, .int .i64 t173, .int .i64 t174, .int .i64 t175, .int .i64 t176, .int .i64 0, .int .i64 0, .int .i64 0, .int .i64 0]) ?_ 6 _ rfl; (with_reducible repeat (first | refine blk_drewN ?_ _ | refine blk_drew ?_ | refine blk_alloc ?_ _)); refine blk_put (cs := #[.int .i64 t171, .int .i64 t172, .int .i64 t173, .int .i64 t174, .int .i64 t175, .int .i64 0, .int .i64 0, .int .i64 0, .int .i64 0, .int .i64 0]) ?_ 5 _ rfl; (with_reducible repeat (first | refine blk_drewN ?_ _ | refine blk_drew ?_ | refine blk_alloc ?_ _)); refine blk_put (cs := #[.int .i64 t171, .int .i64 t172, .int .i64 t173, .int .i64 t174, .int .i64 0, .int .i64 0, .int .i64 0, .int .i64 0, .int .i64 0, .int .i64 0]) ?_ 4 _ rfl; (with_reducible repeat (first | refine blk_drewN ?_ _ | refine blk_drew ?_ | refine blk_alloc ?_ _)); refine blk_put (cs := #[.int .i64 t171, .int .i64 t172, .int .i64 t173, .int .i64 0, .int .i64 0, .int .i64 0, .int .i64 0, .int .i64 0, .int .i64 0, .int .i64 0]) ?_ 3 _ rfl; (with_reducible repeat (first | refine blk_drewN ?_ _ | refine blk_drew ?_ | refine blk_alloc ?_ _)); refine blk_put (cs := #[.int .i64 t171, .int .i64 t172, .int .i64 0, .int .i64 0, .int .i64 0, .int .i64 0, .int .i64 0, .int .i64 0, .int .i64 0, .int .i64 0]) ?_ 2 _ rfl; (with_reducible repeat (first | refine blk_drewN ?_ _ | refine blk_drew ?_ | refine blk_alloc ?_ _)); refine blk_put (cs := #[.int .i64 t171, .int .i64 0, .int .i64 0, .int .i64 0, .int .i64 0, .int .i64 0, .int .i64 0, .int .i64 0, .int .i64 0, .int .i64 0]) ?_ 1 _ rfl; (with_reducible repeat (first | refine blk_drewN ?_ _ | refine blk_drew ?_ | refine blk_alloc ?_ _)); refine blk_put (cs := #[.int .i64 0, .int .i64 0, .int .i64 0, .int .i64 0, .int .i64 0, .int .i64 0, .int .i64 0, .int .i64 0, .int .i64 0, .int .i64 0]) ?_ 0 _ rfl; (with_reducible repeat (first | refine blk_drewN ?_ _ | refine blk_drew ?_ | refine blk_alloc ?_ _)); exact BK181.out⟩, ⟨by repeat (first | (with_reducible first | exact HB.out | apply below_alloc | apply pw_below_drewN | apply below_drew1 | refine below_set ?_ GE181.out) | exact HB.out)⟩⟩
                    · rw [if_neg c26] at H
                      have c26b0 : ((Int.tmod (Go.bits .and .i64 a0 65535) 10) == 8) = false := beq_eq_false_iff_ne.mpr c26
                      have c26b1 : ((Int.tmod (Go.bits .and .i64 a0 65535) 10) != 8) = true := bne_iff_ne.mpr c26
                      by_cases c28 : (Int.tmod (Go.bits .and .i64 a0 65535) 10) = 9
                      · rw [if_pos c28] at H
                        have c28b0 : ((Int.tmod (Go.bits .and .i64 a0 65535) 10) == 9) = true := beq_iff_eq.mpr c28
                        have c28b1 : ((Int.tmod (Go.bits .and .i64 a0 65535) 10) != 9) = false := bne_eq_false_iff_eq.mpr c28
                        clear c28
                        have H' := Aside0.mk H
                        clear H
                        have hcz29_0 : w8.cell? ⟨gb181, 0, none⟩ = some (.int .i64 0) := (blk_cell BK181.out 0).trans rfl
                        have hcz29_1 : w8.cell? ⟨gb181, 1, none⟩ = some (.int .i64 0) := (blk_cell BK181.out 1).trans rfl
                        have hcz29_2 : w8.cell? ⟨gb181, 2, none⟩ = some (.int .i64 0) := (blk_cell BK181.out 2).trans rfl
                        have hcz29_3 : w8.cell? ⟨gb181, 3, none⟩ = some (.int .i64 0) := (blk_cell BK181.out 3).trans rfl
                        have hcz29_4 : w8.cell? ⟨gb181, 4, none⟩ = some (.int .i64 0) := (blk_cell BK181.out 4).trans rfl
                        have hcz29_5 : w8.cell? ⟨gb181, 5, none⟩ = some (.int .i64 0) := (blk_cell BK181.out 5).trans rfl
                        have hcz29_6 : w8.cell? ⟨gb181, 6, none⟩ = some (.int .i64 0) := (blk_cell BK181.out 6).trans rfl
                        have hcz29_7 : w8.cell? ⟨gb181, 7, none⟩ = some (.int .i64 0) := (blk_cell BK181.out 7).trans rfl
                        have hcz29_8 : w8.cell? ⟨gb181, 8, none⟩ = some (.int .i64 0) := (blk_cell BK181.out 8).trans rfl
                        have hcz29_9 : w8.cell? ⟨gb181, 9, none⟩ = some (.int .i64 0) := (blk_cell BK181.out 9).trans rfl
                        have hfz29_0 := blk_frozen BK181.out 0
                        have hfz29_1 := blk_frozen BK181.out 1
                        have hfz29_2 := blk_frozen BK181.out 2
                        have hfz29_3 := blk_frozen BK181.out 3
                        have hfz29_4 := blk_frozen BK181.out 4
                        have hfz29_5 := blk_frozen BK181.out 5
                        have hfz29_6 := blk_frozen BK181.out 6
                        have hfz29_7 := blk_frozen BK181.out 7
                        have hfz29_8 := blk_frozen BK181.out 8
                        have hfz29_9 := blk_frozen BK181.out 9
                        go_wp2
                        first | go_meet | (refine Met.intro ?_; go_step; (try rw [c10b0]); (try rw [c12b0]); (try rw [c14b0]); (try rw [c16b0]); (try rw [c18b0]); (try rw [c20b0]); (try rw [c22b0]); (try rw [c24b0]); (try rw [c26b0]); (try rw [c28b0]); (repeat apply Exists.intro); refine ⟨?rel, rfl⟩)
                        case rel => exact ⟨_, (1), (1048576), (t171), (t172), (t173), (t174), (t175), (t176), (t177), (t178), (t179), (a1), (by first | rfl | (simp; done) | (simp [*]; done)), (by first | rfl | (simp; done) | (simp [*]; done)), H', ⟨by first | omega | exact Nat.le_refl _⟩, ⟨by (with_reducible repeat (first | refine blk_drewN ?_ _ | refine blk_drew ?_ | refine blk_alloc ?_ _)); refine blk_put (cs := #[.int .i64 t171, .int .i64 t172, .int .i64 t173, .int .i64 t174, .int .i64 t175, .int .i64 t176, .int .i64 t177, .int .i64 t178, .int .i64 t179, .int .i64 t180]) ?_ 9 _ rfl; (with_reducible repeat (first | refine blk_drewN ?_ _ | refine blk_drew ?_ | refine blk_alloc ?_ _)); refine blk_put (cs := #[.int .i64 t171, .int .i64 t172, .int .i64 t173, .int .i64 t174, .int .i64 t175, .int .i64 t176, .int .i64 t177, .int .i64 t178, .int .i64 t179, .int .i64 0]) ?_ 9 _ rfl; (with_reducible repeat (first | refine blk_drewN ?_ _ | refine blk_drew ?_ | refine blk_alloc ?_ _)); refine blk_put (cs := #[.int .i64 t171, .int .i64 t172, .int .i64 t173, .int .i64 t174, .int .i64 t175, .int .i64 t176, .int .i64 t177, .int .i64 t178, .int .i64 0, .int .i64 0]) ?_ 8 _ rfl; (with_reducible repeat (first | refine blk_drewN ?_ _ | refine blk_drew ?_ | refine blk_alloc ?_ _)); refine blk_put (cs := #[.int .i64 t171, .int .i64 t172, .int .i64 t173, .int .i64 t174, .int .i64 t175, .int .i64 t176, .int .i64 t177, .int .i64 0, .int .i64 0, .int .i64 0]) ?_ 7 _ rfl; (with_reducible repeat (first | refine blk_drewN ?_ _ | refine blk_drew ?_ | refine blk_alloc ?_ _)); refine blk_put (cs := #[.int .i64 t171, .int .i64 t172, .int .i64 t173, .int .i64 t174, .int .i64 t175, .int .i64 t176, .int .i64 0, .int .i64 0, .int .i64 0, .int .i64 0]) ?_ 6 _ rfl; (with_reducible repeat (first | refine blk_drewN ?_ _ | refine blk_drew ?_ | refine blk_alloc ?_ _)); refine blk_put (cs := #[.int .i64 t171, .int .i64 t172, .int .i64 t173, .int .i64 t174, .int .i64 t175, .int .i64 0, .int .i64 0, .int .i64 0, .int .i64 0, .int .i64 0]) ?_ 5 _ rfl; (with_reducible repeat (first | refine blk_drewN ?_ _ | refine blk_drew ?_ | refine blk_alloc ?_ _)); refine blk_put (cs := #[.int .i64 t171, .int .i64 t172, .int .i64 t173, .int .i64 t174, .int .i64 0, .int .i64 0, .int .i64 0, .int .i64 0, .int .i64 0, .int .i64 0]) ?_ 4 _ rfl; (with_reducible repeat (first | refine blk_drewN ?_ _ | refine blk_drew ?_ | refine blk_alloc ?_ _)); refine blk_put (cs := #[.int .i64 t171, .int .i64 t172, .int .i64 t173, .int .i64 0, .int .i64 0, .int .i64 0, .int .i64 0, .int .i64 0, .int .i64 0, .int .i64 0]) ?_ 3 _ rfl; (with_reducible repeat (first | refine blk_drewN ?_ _ | refine blk_drew ?_ | refine blk_alloc ?_ _)); refine blk_put (cs := #[.int .i64 t171, .int .i64 t172, .int .i64 0, .int .i64 0, .int .i64 0, .int .i64 0, .int .i64 0, .int .i64 0, .int .i64 0, .int .i64 0]) ?_ 2 _ rfl; (with_reducible repeat (first | refine blk_drewN ?_ _ | refine blk_drew ?_ | refine blk_alloc ?_ _)); refine blk_put (cs := #[.int .i64 t171, .int .i64 0, .int .i64 0, .int .i64 0, .int .i64 0, .int .i64 0, .int .i64 0, .int .i64 0, .int .i64 0, .int .i64 0]) ?_ 1 _ rfl; (with_reducible repeat (first | refine blk_drewN ?_ _ | refine blk_drew ?_ | refine blk_alloc ?_ _)); refine blk_put (cs := #[.int .i64 0, .int .i64 0, .int .i64 0, .int .i64 0, .int .i64 0, .int .i64 0, .int .i64 0, .int .i64 0, .int .i64 0, .int .i64 0]) ?_ 0 _ rfl; (with_reducible repeat (first | refine blk_drewN ?_ _ | refine blk_drew ?_ | refine blk_alloc ?_ _)); exact BK181.out⟩, ⟨by repeat (first | (with_reducible first | exact HB.out | apply below_alloc | apply pw_below_drewN | apply below_drew1 | refine below_set ?_ GE181.out) | exact HB.out)⟩⟩
                      · rw [if_neg c28] at H
                        have c28b0 : ((Int.tmod (Go.bits .and .i64 a0 65535) 10) == 9) = false := beq_eq_false_iff_ne.mpr c28
                        have c28b1 : ((Int.tmod (Go.bits .and .i64 a0 65535) 10) != 9) = true := bne_iff_ne.mpr c28
                        have H' := Aside0.mk H
                        clear H
                        go_wp2
                        first | go_meet | (refine Met.intro ?_; go_step; (try rw [c10b0]); (try rw [c12b0]); (try rw [c14b0]); (try rw [c16b0]); (try rw [c18b0]); (try rw [c20b0]); (try rw [c22b0]); (try rw [c24b0]); (try rw [c26b0]); (try rw [c28b0]); (repeat apply Exists.intro); refine ⟨?rel, rfl⟩)
                        case rel => exact ⟨_, (1), (1048576), (t171), (t172), (t173), (t174), (t175), (t176), (t177), (t178), (t179), (t180), (by first | rfl | (simp; done) | (simp [*]; done)), (by first | rfl | (simp; done) | (simp [*]; done)), H', ⟨by first | omega | exact Nat.le_refl _⟩, ⟨by (with_reducible repeat (first | refine blk_drewN ?_ _ | refine blk_drew ?_ | refine blk_alloc ?_ _)); refine blk_put (cs := #[.int .i64 t171, .int .i64 t172, .int .i64 t173, .int .i64 t174, .int .i64 t175, .int .i64 t176, .int .i64 t177, .int .i64 t178, .int .i64 t179, .int .i64 0]) ?_ 9 _ rfl; (with_reducible repeat (first | refine blk_drewN ?_ _ | refine blk_drew ?_ | refine blk_alloc ?_ _)); refine blk_put (cs := #[.int .i64 t171, .int .i64 t172, .int .i64 t173, .int .i64 t174, .int .i64 t175, .int .i64 t176, .int .i64 t177, .int .i64 t178, .int .i64 0, .int .i64 0]) ?_ 8 _ rfl; (with_reducible repeat (first | refine blk_drewN ?_ _ | refine blk_drew ?_ | refine blk_alloc ?_ _)); refine blk_put (cs := #[.int .i64 t171, .int .i64 t172, .int .i64 t173, .int .i64 t174, .int .i64 t175, .int .i64 t176, .int .i64 t177, .int .i64 0, .int .i64 0, .int .i64 0]) ?_ 7 _ rfl; (with_reducible repeat (first | refine blk_drewN ?_ _ | refine blk_drew ?_ | refine blk_alloc ?_ _)); refine blk_put (cs := #[.int .i64 t171, .int .i64 t172, .int .i64 t173, .int .i64 t174, .int .i64 t175, .int .i64 t176, .int .i64 0, .int .i64 0, .int .i64 0, .int .i64 0]) ?_ 6 _ rfl; (with_reducible repeat (first | refine blk_drewN ?_ _ | refine blk_drew ?_ | refine blk_alloc ?_ _)); refine blk_put (cs := #[.int .i64 t171, .int .i64 t172, .int .i64 t173, .int .i64 t174, .int .i64 t175, .int .i64 0, .int .i64 0, .int .i64 0, .int .i64 0, .int .i64 0]) ?_ 5 _ rfl; (with_reducible repeat (first | refine blk_drewN ?_ _ | refine blk_drew ?_ | refine blk_alloc ?_ _)); refine blk_put (cs := #[.int .i64 t171, .int .i64 t172, .int .i64 t173, .int .i64 t174, .int .i64 0, .int .i64 0, .int .i64 0, .int .i64 0, .int .i64 0, .int .i64 0]) ?_ 4 _ rfl; (with_reducible repeat (first | refine blk_drewN ?_ _ | refine blk_drew ?_ | refine blk_alloc ?_ _)); refine blk_put (cs := #[.int .i64 t171, .int .i64 t172, .int .i64 t173, .int .i64 0, .int .i64 0, .int .i64 0, .int .i64 0, .int .i64 0, .int .i64 0, .int .i64 0]) ?_ 3 _ rfl; (with_reducible repeat (first | refine blk_drewN ?_ _ | refine blk_drew ?_ | refine blk_alloc ?_ _)); refine blk_put (cs := #[.int .i64 t171, .int .i64 t172, .int .i64 0, .int .i64 0, .int .i64 0, .int .i64 0, .int .i64 0, .int .i64 0, .int .i64 0, .int .i64 0]) ?_ 2 _ rfl; (with_reducible repeat (first | refine blk_drewN ?_ _ | refine blk_drew ?_ | refine blk_alloc ?_ _)); refine blk_put (cs := #[.int .i64 t171, .int .i64 0, .int .i64 0, .int .i64 0, .int .i64 0, .int .i64 0, .int .i64 0, .int .i64 0, .int .i64 0, .int .i64 0]) ?_ 1 _ rfl; (with_reducible repeat (first | refine blk_drewN ?_ _ | refine blk_drew ?_ | refine blk_alloc ?_ _)); refine blk_put (cs := #[.int .i64 0, .int .i64 0, .int .i64 0, .int .i64 0, .int .i64 0, .int .i64 0, .int .i64 0, .int .i64 0, .int .i64 0, .int .i64 0]) ?_ 0 _ rfl; (with_reducible repeat (first | refine blk_drewN ?_ _ | refine blk_drew ?_ | refine blk_alloc ?_ _)); exact BK181.out⟩, ⟨by repeat (first | (with_reducible first | exact HB.out | apply below_alloc | apply pw_below_drewN | apply below_drew1 | refine below_set ?_ GE181.out) | exact HB.out)⟩⟩
  case rest =>
    clear HC5
    try clear c1
    try clear c2
    try clear p2
    try clear c4
    try clear c10
    try clear c10b0
    try clear c10b1
    try clear c12
    try clear c12b0
    try clear c12b1
    try clear c13
    try clear c14
    try clear c14b0
    try clear c14b1
    try clear c16
    try clear c16b0
    try clear c16b1
    try clear c18
    try clear c18b0
    try clear c18b1
    try clear c20
    try clear c20b0
    try clear c20b1
    try clear c22
    try clear c22b0
    try clear c22b1
    try clear c24
    try clear c24b0
    try clear c24b1
    try clear c26
    try clear c26b0
    try clear c26b1
    try clear c28
    try clear c28b0
    try clear c28b1
    try clear hcz11_0
    try clear hcz11_1
    try clear hcz11_2
    try clear hcz11_3
    try clear hcz11_4
    try clear hcz11_5
    try clear hcz11_6
    try clear hcz11_7
    try clear hcz11_8
    try clear hcz11_9
    try clear hcz13_0
    try clear hcz13_1
    try clear hcz13_2
    try clear hcz13_3
    try clear hcz13_4
    try clear hcz13_5
    try clear hcz13_6
    try clear hcz13_7
    try clear hcz13_8
    try clear hcz13_9
    try clear hcz15_0
    try clear hcz15_1
    try clear hcz15_2
    try clear hcz15_3
    try clear hcz15_4
    try clear hcz15_5
    try clear hcz15_6
    try clear hcz15_7
    try clear hcz15_8
    try clear hcz15_9
    try clear hcz17_0
    try clear hcz17_1
    try clear hcz17_2
    try clear hcz17_3
    try clear hcz17_4
    try clear hcz17_5
    try clear hcz17_6
    try clear hcz17_7
    try clear hcz17_8
    try clear hcz17_9
    try clear hcz19_0
    try clear hcz19_1
    try clear hcz19_2
    try clear hcz19_3
    try clear hcz19_4
    try clear hcz19_5
    try clear hcz19_6
    try clear hcz19_7
    try clear hcz19_8
    try clear hcz19_9
    try clear hcz21_0
    try clear hcz21_1
    try clear hcz21_2
    try clear hcz21_3
    try clear hcz21_4
    try clear hcz21_5
    try clear hcz21_6
    try clear hcz21_7
    try clear hcz21_8
    try clear hcz21_9
    try clear hcz23_0
    try clear hcz23_1
    try clear hcz23_2
    try clear hcz23_3
    try clear hcz23_4
    try clear hcz23_5
    try clear hcz23_6
    try clear hcz23_7
    try clear hcz23_8
    try clear hcz23_9
    try clear hcz25_0
    try clear hcz25_1
    try clear hcz25_2
    try clear hcz25_3
    try clear hcz25_4
    try clear hcz25_5
    try clear hcz25_6
    try clear hcz25_7
    try clear hcz25_8
    try clear hcz25_9
    try clear hcz27_0
    try clear hcz27_1
    try clear hcz27_2
    try clear hcz27_3
    try clear hcz27_4
    try clear hcz27_5
    try clear hcz27_6
    try clear hcz27_7
    try clear hcz27_8
    try clear hcz27_9
    try clear hcz29_0
    try clear hcz29_1
    try clear hcz29_2
    try clear hcz29_3
    try clear hcz29_4
    try clear hcz29_5
    try clear hcz29_6
    try clear hcz29_7
    try clear hcz29_8
    try clear hcz29_9
    try clear hcz9_0
    try clear hcz9_1
    try clear hcz9_2
    try clear hcz9_3
    try clear hcz9_4
    try clear hcz9_5
    try clear hcz9_6
    try clear hcz9_7
    try clear hcz9_8
    try clear hcz9_9
    try clear hfz11_0
    try clear hfz11_1
    try clear hfz11_2
    try clear hfz11_3
    try clear hfz11_4
    try clear hfz11_5
    try clear hfz11_6
    try clear hfz11_7
    try clear hfz11_8
    try clear hfz11_9
    try clear hfz13_0
    try clear hfz13_1
    try clear hfz13_2
    try clear hfz13_3
    try clear hfz13_4
    try clear hfz13_5
    try clear hfz13_6
    try clear hfz13_7
    try clear hfz13_8
    try clear hfz13_9
    try clear hfz15_0
    try clear hfz15_1
    try clear hfz15_2
    try clear hfz15_3
    try clear hfz15_4
    try clear hfz15_5
    try clear hfz15_6
    try clear hfz15_7
    try clear hfz15_8
    try clear hfz15_9
    try clear hfz17_0
    try clear hfz17_1
    try clear hfz17_2
    try clear hfz17_3
    try clear hfz17_4
    try clear hfz17_5
    try clear hfz17_6
    try clear hfz17_7
    try clear hfz17_8
    try clear hfz17_9
    try clear hfz19_0
    try clear hfz19_1
    try clear hfz19_2
    try clear hfz19_3
    try clear hfz19_4
    try clear hfz19_5
    try clear hfz19_6
    try clear hfz19_7
    try clear hfz19_8
    try clear hfz19_9
    try clear hfz21_0
    try clear hfz21_1
    try clear hfz21_2
    try clear hfz21_3
    try clear hfz21_4
    try clear hfz21_5
    try clear hfz21_6
    try clear hfz21_7
    try clear hfz21_8
    try clear hfz21_9
    try clear hfz23_0
    try clear hfz23_1
    try clear hfz23_2
    try clear hfz23_3
    try clear hfz23_4
    try clear hfz23_5
    try clear hfz23_6
    try clear hfz23_7
    try clear hfz23_8
    try clear hfz23_9
    try clear hfz25_0
    try clear hfz25_1
    try clear hfz25_2
    try clear hfz25_3
    try clear hfz25_4
    try clear hfz25_5
    try clear hfz25_6
    try clear hfz25_7
    try clear hfz25_8
    try clear hfz25_9
    try clear hfz27_0
    try clear hfz27_1
    try clear hfz27_2
    try clear hfz27_3
    try clear hfz27_4
    try clear hfz27_5
    try clear hfz27_6
    try clear hfz27_7
    try clear hfz27_8
    try clear hfz27_9
    try clear hfz29_0
    try clear hfz29_1
    try clear hfz29_2
    try clear hfz29_3
    try clear hfz29_4
    try clear hfz29_5
    try clear hfz29_6
    try clear hfz29_7
    try clear hfz29_8
    try clear hfz29_9
    try clear hfz9_0
    try clear hfz9_1
    try clear hfz9_2
    try clear hfz9_3
    try clear hfz9_4
    try clear hfz9_5
    try clear hfz9_6
    try clear hfz9_7
    try clear hfz9_8
    try clear hfz9_9
    obtain ⟨kq, x7_4, x8_4, x182000_4, x182001_4, x182002_4, x182003_4, x182004_4, x182005_4, x182006_4, x182007_4, x182008_4, x182009_4, rfl, rfl, HA, HJ4, BK181, HB⟩ := hcut
    cases kq with
    | zero => exact absurd HA.out (by simp [millwrightlaw04_CheckNumbers.j0])
    | succ kj4 =>
      have H := HA.out
      clear HA
      simp only [millwrightlaw04_CheckNumbers.j0] at H
      have HC30 := Aside0.mk H
      clear H
      go_upto_region 31 with (fail)
      go_cut [65] (fun v65 wc => ∃ (kq : Nat) (x65_29 : Bool), v65 = .bool x65_29 ∧ Aside0 (millwrightlaw04_CheckNumbers.j1 kq t170 0 x65_29 x182000_4 x182001_4 x182002_4 x182003_4 x182004_4 x182005_4 x182006_4 x182007_4 x182008_4 x182009_4 = some true) ∧ Aside0 (kq ≤ kj4) ∧ Aside0 (wc.heap[gb181]? = some (.cells #[.int .i64 x182000_4, .int .i64 x182001_4, .int .i64 x182002_4, .int .i64 x182003_4, .int .i64 x182004_4, .int .i64 x182005_4, .int .i64 x182006_4, .int .i64 x182007_4, .int .i64 x182008_4, .int .i64 x182009_4] 23 (0, 0))) ∧ Aside0 (Below w.heap.size w wc))
      case first =>
        have H := HC30.out
        clear HC30
        by_cases c31 : a1 < x7_4
        · rw [if_pos c31] at H
          have c31b0 : decide (a1 < x7_4) = true := decide_eq_true c31
          clear c31
          (first | rw [c31b0] | (simp only [i64_w, i32_w]; rw [c31b0]) | skip)
          have H' := Aside0.mk H
          clear H
          go_wp2
          first | go_meet | (refine Met.intro ?_; go_step; (try rw [c31b0]); (repeat apply Exists.intro); refine ⟨?rel, rfl⟩)
          case rel => exact ⟨_, (true), (by first | rfl | (simp; done) | (simp [*]; done)), H', ⟨by have := HJ4.out; first | omega | exact Nat.le_refl _⟩, ⟨by (with_reducible repeat (first | refine blk_drewN ?_ _ | refine blk_drew ?_ | refine blk_alloc ?_ _)); exact BK181.out⟩, ⟨by repeat (first | (with_reducible first | exact HB.out | apply below_alloc | apply pw_below_drewN | apply below_drew1 | refine below_set ?_ GE181.out) | exact HB.out)⟩⟩
        · rw [if_neg c31] at H
          have c31b0 : decide (a1 < x7_4) = false := decide_eq_false c31
          clear c31
          (first | rw [c31b0] | (simp only [i64_w, i32_w]; rw [c31b0]) | skip)
          have H' := Aside0.mk H
          clear H
          go_wp2
          first | go_meet | (refine Met.intro ?_; go_step; (try rw [c31b0]); (repeat apply Exists.intro); refine ⟨?rel, rfl⟩)
          case rel => exact ⟨_, (decide (a1 > x8_4)), (by first | rfl | (simp; done) | (simp [*]; done)), H', ⟨by have := HJ4.out; first | omega | exact Nat.le_refl _⟩, ⟨by (with_reducible repeat (first | refine blk_drewN ?_ _ | refine blk_drew ?_ | refine blk_alloc ?_ _)); exact BK181.out⟩, ⟨by repeat (first | (with_reducible first | exact HB.out | apply below_alloc | apply pw_below_drewN | apply below_drew1 | refine below_set ?_ GE181.out) | exact HB.out)⟩⟩
      case rest =>
        clear HC30
        try clear c1
        try clear c2
        try clear p2
        try clear c3
        try clear c4
        try clear c10
        try clear c10b0
        try clear c10b1
        try clear c12
        try clear c12b0
        try clear c12b1
        try clear c13
        try clear c14
        try clear c14b0
        try clear c14b1
        try clear c16
        try clear c16b0
        try clear c16b1
        try clear c18
        try clear c18b0
        try clear c18b1
        try clear c20
        try clear c20b0
        try clear c20b1
        try clear c22
        try clear c22b0
        try clear c22b1
        try clear c24
        try clear c24b0
        try clear c24b1
        try clear c26
        try clear c26b0
        try clear c26b1
        try clear c28
        try clear c28b0
        try clear c28b1
        try clear c31
        try clear c31b0
        try clear hcz11_0
        try clear hcz11_1
        try clear hcz11_2
        try clear hcz11_3
        try clear hcz11_4
        try clear hcz11_5
        try clear hcz11_6
        try clear hcz11_7
        try clear hcz11_8
        try clear hcz11_9
        try clear hcz13_0
        try clear hcz13_1
        try clear hcz13_2
        try clear hcz13_3
        try clear hcz13_4
        try clear hcz13_5
        try clear hcz13_6
        try clear hcz13_7
        try clear hcz13_8
        try clear hcz13_9
        try clear hcz15_0
        try clear hcz15_1
        try clear hcz15_2
        try clear hcz15_3
        try clear hcz15_4
        try clear hcz15_5
        try clear hcz15_6
        try clear hcz15_7
        try clear hcz15_8
        try clear hcz15_9
        try clear hcz17_0
        try clear hcz17_1
        try clear hcz17_2
        try clear hcz17_3
        try clear hcz17_4
        try clear hcz17_5
        try clear hcz17_6
        try clear hcz17_7
        try clear hcz17_8
        try clear hcz17_9
        try clear hcz19_0
        try clear hcz19_1
        try clear hcz19_2
        try clear hcz19_3
        try clear hcz19_4
        try clear hcz19_5
        try clear hcz19_6
        try clear hcz19_7
        try clear hcz19_8
        try clear hcz19_9
        try clear hcz21_0
        try clear hcz21_1
        try clear hcz21_2
        try clear hcz21_3
        try clear hcz21_4
        try clear hcz21_5
        try clear hcz21_6
        try clear hcz21_7
        try clear hcz21_8
        try clear hcz21_9
        try clear hcz23_0
        try clear hcz23_1
        try clear hcz23_2
        try clear hcz23_3
        try clear hcz23_4
        try clear hcz23_5
        try clear hcz23_6
        try clear hcz23_7
        try clear hcz23_8
        try clear hcz23_9
        try clear hcz25_0
        try clear hcz25_1
        try clear hcz25_2
        try clear hcz25_3
        try clear hcz25_4
        try clear hcz25_5
        try clear hcz25_6
        try clear hcz25_7
        try clear hcz25_8
        try clear hcz25_9
        try clear hcz27_0
        try clear hcz27_1
        try clear hcz27_2
        try clear hcz27_3
        try clear hcz27_4
        try clear hcz27_5
        try clear hcz27_6
        try clear hcz27_7
        try clear hcz27_8
        try clear hcz27_9
        try clear hcz29_0
        try clear hcz29_1
        try clear hcz29_2
        try clear hcz29_3
        try clear hcz29_4
        try clear hcz29_5
        try clear hcz29_6
        try clear hcz29_7
        try clear hcz29_8
        try clear hcz29_9
        try clear hcz9_0
        try clear hcz9_1
        try clear hcz9_2
        try clear hcz9_3
        try clear hcz9_4
        try clear hcz9_5
        try clear hcz9_6
        try clear hcz9_7
        try clear hcz9_8
        try clear hcz9_9
        try clear hfz11_0
        try clear hfz11_1
        try clear hfz11_2
        try clear hfz11_3
        try clear hfz11_4
        try clear hfz11_5
        try clear hfz11_6
        try clear hfz11_7
        try clear hfz11_8
        try clear hfz11_9
        try clear hfz13_0
        try clear hfz13_1
        try clear hfz13_2
        try clear hfz13_3
        try clear hfz13_4
        try clear hfz13_5
        try clear hfz13_6
        try clear hfz13_7
        try clear hfz13_8
        try clear hfz13_9
        try clear hfz15_0
        try clear hfz15_1
        try clear hfz15_2
        try clear hfz15_3
        try clear hfz15_4
        try clear hfz15_5
        try clear hfz15_6
        try clear hfz15_7
        try clear hfz15_8
        try clear hfz15_9
        try clear hfz17_0
        try clear hfz17_1
        try clear hfz17_2
        try clear hfz17_3
        try clear hfz17_4
        try clear hfz17_5
        try clear hfz17_6
        try clear hfz17_7
        try clear hfz17_8
        try clear hfz17_9
        try clear hfz19_0
        try clear hfz19_1
        try clear hfz19_2
        try clear hfz19_3
        try clear hfz19_4
        try clear hfz19_5
        try clear hfz19_6
        try clear hfz19_7
        try clear hfz19_8
        try clear hfz19_9
        try clear hfz21_0
        try clear hfz21_1
        try clear hfz21_2
        try clear hfz21_3
        try clear hfz21_4
        try clear hfz21_5
        try clear hfz21_6
        try clear hfz21_7
        try clear hfz21_8
        try clear hfz21_9
        try clear hfz23_0
        try clear hfz23_1
        try clear hfz23_2
        try clear hfz23_3
        try clear hfz23_4
        try clear hfz23_5
        try clear hfz23_6
        try clear hfz23_7
        try clear hfz23_8
        try clear hfz23_9
        try clear hfz25_0
        try clear hfz25_1
        try clear hfz25_2
        try clear hfz25_3
        try clear hfz25_4
        try clear hfz25_5
        try clear hfz25_6
        try clear hfz25_7
        try clear hfz25_8
        try clear hfz25_9
        try clear hfz27_0
        try clear hfz27_1
        try clear hfz27_2
        try clear hfz27_3
        try clear hfz27_4
        try clear hfz27_5
        try clear hfz27_6
        try clear hfz27_7
        try clear hfz27_8
        try clear hfz27_9
        try clear hfz29_0
        try clear hfz29_1
        try clear hfz29_2
        try clear hfz29_3
        try clear hfz29_4
        try clear hfz29_5
        try clear hfz29_6
        try clear hfz29_7
        try clear hfz29_8
        try clear hfz29_9
        try clear hfz9_0
        try clear hfz9_1
        try clear hfz9_2
        try clear hfz9_3
        try clear hfz9_4
        try clear hfz9_5
        try clear hfz9_6
        try clear hfz9_7
        try clear hfz9_8
        try clear hfz9_9
        try clear p2
        obtain ⟨kq, x65_29, rfl, HA, HJ29, BK181, HB⟩ := hcut
        cases kq with
        | zero => exact absurd HA.out (by simp [millwrightlaw04_CheckNumbers.j1])
        | succ kj29 =>
          have H := HA.out
          clear HA
          simp only [millwrightlaw04_CheckNumbers.j1] at H
          by_cases c32 : x65_29 = true
          · subst c32
            have H1 : ((check_File.f kj29 x182000_4 x182001_4 x182002_4 x182003_4 x182004_4 x182005_4 x182006_4 x182007_4 x182008_4 x182009_4 ([] : List (S39)) ([] : List (S30))).bind fun bt182 => (if t170 = true then ((check_Config.f kj29 x182000_4 x182001_4 x182002_4 x182003_4 x182004_4 x182005_4 x182006_4 x182007_4 x182008_4 x182009_4).bind fun t184 => (if t184 = 3 then (if bt182.2 = 3 then (if bt182.1 = (-1) then (some false) else (if bt182.1 = 0 then (some true) else (some false))) else (some false)) else (some false))) else (some false))) = some true := by rw [if_pos rfl] at H; exact H
            clear H
            have H := H1
            clear H1
            replace H := Option.bind_eq_some_iff.mp H
            obtain ⟨⟨t182, t183⟩, A330, H⟩ := H
            replace H : (if t170 = true then ((check_Config.f kj29 x182000_4 x182001_4 x182002_4 x182003_4 x182004_4 x182005_4 x182006_4 x182007_4 x182008_4 x182009_4).bind fun t184 => (if t184 = 3 then (if t183 = 3 then (if t182 = (-1) then (some false) else (if t182 = 0 then (some true) else (some false))) else (some false)) else (some false))) else (some false)) = some true := H
            have A33 := Aside0.mk A330
            clear A330
            by_cases c34 : t170 = true
            · subst c34
              have H1 : ((check_Config.f kj29 x182000_4 x182001_4 x182002_4 x182003_4 x182004_4 x182005_4 x182006_4 x182007_4 x182008_4 x182009_4).bind fun t184 => (if t184 = 3 then (if t183 = 3 then (if t182 = (-1) then (some false) else (if t182 = 0 then (some true) else (some false))) else (some false)) else (some false))) = some true := by rw [if_pos rfl] at H; exact H
              clear H
              have H := H1
              clear H1
              replace H := Option.bind_eq_some_iff.mp H
              obtain ⟨t184, A350, H⟩ := H
              replace H : (if t184 = 3 then (if t183 = 3 then (if t182 = (-1) then (some false) else (if t182 = 0 then (some true) else (some false))) else (some false)) else (some false)) = some true := H
              have A35 := Aside0.mk A350
              clear A350
              by_cases c36 : t184 = 3
              · rw [if_pos c36] at H
                have c36b0 : (t184 == 3) = true := beq_iff_eq.mpr c36
                have c36b1 : (t184 != 3) = false := bne_eq_false_iff_eq.mpr c36
                clear c36
                by_cases c37 : t183 = 3
                · rw [if_pos c37] at H
                  have c37b0 : (t183 == 3) = true := beq_iff_eq.mpr c37
                  have c37b1 : (t183 != 3) = false := bne_eq_false_iff_eq.mpr c37
                  clear c37
                  by_cases c38 : t182 = (-1)
                  · rw [if_pos c38] at H
                    have c38b0 : (t182 == (-1)) = true := beq_iff_eq.mpr c38
                    have c38b1 : (t182 != (-1)) = false := bne_eq_false_iff_eq.mpr c38
                    clear c38
                    exact absurd H (by simp)
                  · rw [if_neg c38] at H
                    have c38b0 : (t182 == (-1)) = false := beq_eq_false_iff_ne.mpr c38
                    have c38b1 : (t182 != (-1)) = true := bne_iff_ne.mpr c38
                    by_cases c39 : t182 = 0
                    · rw [if_pos c39] at H
                      have c39b0 : (t182 == 0) = true := beq_iff_eq.mpr c39
                      have c39b1 : (t182 != 0) = false := bne_eq_false_iff_eq.mpr c39
                      clear c39
                      clear H
                      have hcz40_0 : wc.cell? ⟨gb181, 0, none⟩ = some (.int .i64 x182000_4) := (blk_cell BK181.out 0).trans rfl
                      have hcz40_1 : wc.cell? ⟨gb181, 1, none⟩ = some (.int .i64 x182001_4) := (blk_cell BK181.out 1).trans rfl
                      have hcz40_2 : wc.cell? ⟨gb181, 2, none⟩ = some (.int .i64 x182002_4) := (blk_cell BK181.out 2).trans rfl
                      have hcz40_3 : wc.cell? ⟨gb181, 3, none⟩ = some (.int .i64 x182003_4) := (blk_cell BK181.out 3).trans rfl
                      have hcz40_4 : wc.cell? ⟨gb181, 4, none⟩ = some (.int .i64 x182004_4) := (blk_cell BK181.out 4).trans rfl
                      have hcz40_5 : wc.cell? ⟨gb181, 5, none⟩ = some (.int .i64 x182005_4) := (blk_cell BK181.out 5).trans rfl
                      have hcz40_6 : wc.cell? ⟨gb181, 6, none⟩ = some (.int .i64 x182006_4) := (blk_cell BK181.out 6).trans rfl
                      have hcz40_7 : wc.cell? ⟨gb181, 7, none⟩ = some (.int .i64 x182007_4) := (blk_cell BK181.out 7).trans rfl
                      have hcz40_8 : wc.cell? ⟨gb181, 8, none⟩ = some (.int .i64 x182008_4) := (blk_cell BK181.out 8).trans rfl
                      have hcz40_9 : wc.cell? ⟨gb181, 9, none⟩ = some (.int .i64 x182009_4) := (blk_cell BK181.out 9).trans rfl
                      have hfz40_0 := blk_frozen BK181.out 0
                      have hfz40_1 := blk_frozen BK181.out 1
                      have hfz40_2 := blk_frozen BK181.out 2
                      have hfz40_3 := blk_frozen BK181.out 3
                      have hfz40_4 := blk_frozen BK181.out 4
                      have hfz40_5 := blk_frozen BK181.out 5
                      have hfz40_6 := blk_frozen BK181.out 6
                      have hfz40_7 := blk_frozen BK181.out 7
                      have hfz40_8 := blk_frozen BK181.out 8
                      have hfz40_9 := blk_frozen BK181.out 9
                      go_wp2_with (first | ((with_reducible refine gate_callee (f := 14) rfl ?_); refine goesL_ (some 69) rfl rfl Try.func14 (by kernel_rfl) rfl #[.agg #[.int .i64 x182000_4, .int .i64 x182001_4, .int .i64 x182002_4, .int .i64 x182003_4, .int .i64 x182004_4, .int .i64 x182005_4, .int .i64 x182006_4, .int .i64 x182007_4, .int .i64 x182008_4, .int .i64 x182009_4, .slice none 0 0, .slice none 0 0]] rfl (by (try simp only [List.map_toArray, List.map_cons, List.map_nil]); first | done | rfl | (simp only [List.length_drop, List.length_take]; rfl)) ?_; (refine (check_File.calls kj29 x182000_4 x182001_4 x182002_4 x182003_4 x182004_4 x182005_4 x182006_4 x182007_4 x182008_4 x182009_4 _ _ ([] : List (S39)) _ _ ([] : List (S30)) t182 t183 _ ?side1 ?side2 ?side3 ?side4 A33.out).mono ?_); (case side1 => exact Kd.C_nil _ _); (case side2 => exact Nat.le_refl _); (case side3 => exact Kd.C_nil _ _); (case side4 => exact Nat.le_refl _); rintro e w41 ⟨rfl, hb⟩; refine ⟨_, rfl, ?_⟩; have n0_ := Aside0.mk (blk_below (g := gb181) (o := .cells #[.int .i64 x182000_4, .int .i64 x182001_4, .int .i64 x182002_4, .int .i64 x182003_4, .int .i64 x182004_4, .int .i64 x182005_4, .int .i64 x182006_4, .int .i64 x182007_4, .int .i64 x182008_4, .int .i64 x182009_4] 23 (0, 0)) (by (with_reducible repeat (first | refine blk_drewN ?_ _ | refine blk_drew ?_ | refine blk_alloc ?_ _)); exact BK181.out) hb); have n1_ := Aside0.mk (below_step (by repeat (first | (with_reducible first | exact HB.out | apply below_alloc | apply pw_below_drewN | apply below_drew1 | refine below_set ?_ GE181.out) | exact HB.out)) hb); clear BK181; clear HB; have BK181 := n0_; have HB := n1_; clear n0_ n1_; (try clear hb); (try clear hb2); (try clear hk); (try clear hi); have hcz42_0 : w41.cell? ⟨gb181, 0, none⟩ = some (.int .i64 x182000_4) := (blk_cell BK181.out 0).trans rfl; have hcz42_1 : w41.cell? ⟨gb181, 1, none⟩ = some (.int .i64 x182001_4) := (blk_cell BK181.out 1).trans rfl; have hcz42_2 : w41.cell? ⟨gb181, 2, none⟩ = some (.int .i64 x182002_4) := (blk_cell BK181.out 2).trans rfl; have hcz42_3 : w41.cell? ⟨gb181, 3, none⟩ = some (.int .i64 x182003_4) := (blk_cell BK181.out 3).trans rfl; have hcz42_4 : w41.cell? ⟨gb181, 4, none⟩ = some (.int .i64 x182004_4) := (blk_cell BK181.out 4).trans rfl; have hcz42_5 : w41.cell? ⟨gb181, 5, none⟩ = some (.int .i64 x182005_4) := (blk_cell BK181.out 5).trans rfl; have hcz42_6 : w41.cell? ⟨gb181, 6, none⟩ = some (.int .i64 x182006_4) := (blk_cell BK181.out 6).trans rfl; have hcz42_7 : w41.cell? ⟨gb181, 7, none⟩ = some (.int .i64 x182007_4) := (blk_cell BK181.out 7).trans rfl; have hcz42_8 : w41.cell? ⟨gb181, 8, none⟩ = some (.int .i64 x182008_4) := (blk_cell BK181.out 8).trans rfl; have hcz42_9 : w41.cell? ⟨gb181, 9, none⟩ = some (.int .i64 x182009_4) := (blk_cell BK181.out 9).trans rfl; have hfz42_0 := blk_frozen BK181.out 0; have hfz42_1 := blk_frozen BK181.out 1; have hfz42_2 := blk_frozen BK181.out 2; have hfz42_3 := blk_frozen BK181.out 3; have hfz42_4 := blk_frozen BK181.out 4; have hfz42_5 := blk_frozen BK181.out 5; have hfz42_6 := blk_frozen BK181.out 6; have hfz42_7 := blk_frozen BK181.out 7; have hfz42_8 := blk_frozen BK181.out 8; have hfz42_9 := blk_frozen BK181.out 9) | (go_at_call 17; (with_reducible refine (check_Config.calls kj29 x182000_4 x182001_4 x182002_4 x182003_4 x182004_4 x182005_4 x182006_4 x182007_4 x182008_4 x182009_4 t184 _ A35.out).mono ?_); rintro e w43 ⟨rfl, hb⟩; have n0_ := Aside0.mk (blk_below (g := gb181) (o := .cells #[.int .i64 x182000_4, .int .i64 x182001_4, .int .i64 x182002_4, .int .i64 x182003_4, .int .i64 x182004_4, .int .i64 x182005_4, .int .i64 x182006_4, .int .i64 x182007_4, .int .i64 x182008_4, .int .i64 x182009_4] 23 (0, 0)) (by (with_reducible repeat (first | refine blk_drewN ?_ _ | refine blk_drew ?_ | refine blk_alloc ?_ _)); exact BK181.out) hb); have n1_ := Aside0.mk (below_step (by repeat (first | (with_reducible first | exact HB.out | apply below_alloc | apply pw_below_drewN | apply below_drew1 | refine below_set ?_ GE181.out) | exact HB.out)) hb); clear BK181; clear HB; have BK181 := n0_; have HB := n1_; clear n0_ n1_; (try clear hb); (try clear hb2); (try clear hk); (try clear hi)))
                      go_ret
                      exact ⟨by first | rfl | (simp [errW_none, errW_some] <;> rfl) | (simp [*, errW_none, errW_some] <;> rfl), by repeat (first | (with_reducible first | exact HB.out | apply below_alloc | apply pw_below_drewN | apply below_drew1 | refine below_set ?_ GE181.out) | exact HB.out)⟩
                    · rw [if_neg c39] at H
                      have c39b0 : (t182 == 0) = false := beq_eq_false_iff_ne.mpr c39
                      have c39b1 : (t182 != 0) = true := bne_iff_ne.mpr c39
                      exact absurd H (by simp)
                · rw [if_neg c37] at H
                  have c37b0 : (t183 == 3) = false := beq_eq_false_iff_ne.mpr c37
                  have c37b1 : (t183 != 3) = true := bne_iff_ne.mpr c37
                  exact absurd H (by simp)
              · rw [if_neg c36] at H
                have c36b0 : (t184 == 3) = false := beq_eq_false_iff_ne.mpr c36
                have c36b1 : (t184 != 3) = true := bne_iff_ne.mpr c36
                exact absurd H (by simp)
            · replace c34 := Bool.eq_false_iff.mpr c34
              subst c34
              have H1 : (some false) = some true := by rw [if_neg (show ¬ (false = true) by decide)] at H; exact H
              clear H
              have H := H1
              clear H1
              exact absurd H (by simp)
          · replace c32 := Bool.eq_false_iff.mpr c32
            subst c32
            have H1 : ((check_File.f kj29 x182000_4 x182001_4 x182002_4 x182003_4 x182004_4 x182005_4 x182006_4 x182007_4 x182008_4 x182009_4 ([] : List (S39)) ([] : List (S30))).bind fun bt185 => (if t170 = true then ((check_Config.f kj29 x182000_4 x182001_4 x182002_4 x182003_4 x182004_4 x182005_4 x182006_4 x182007_4 x182008_4 x182009_4).bind fun t187 => (if t187 = 0 then (if bt185.2 = 0 then (if bt185.1 = (-1) then (if 0 = 0 then (if bt185.1 = 0 then (some false) else (some true)) else (some false)) else (if 0 = 0 then (some false) else (if bt185.1 = 0 then (some true) else (some false)))) else (some false)) else (some false))) else (some false))) = some true := by rw [if_neg (show ¬ (false = true) by decide)] at H; exact H
            clear H
            have H := H1
            clear H1
            replace H := Option.bind_eq_some_iff.mp H
            obtain ⟨⟨t185, t186⟩, A440, H⟩ := H
            replace H : (if t170 = true then ((check_Config.f kj29 x182000_4 x182001_4 x182002_4 x182003_4 x182004_4 x182005_4 x182006_4 x182007_4 x182008_4 x182009_4).bind fun t187 => (if t187 = 0 then (if t186 = 0 then (if t185 = (-1) then (if 0 = 0 then (if t185 = 0 then (some false) else (some true)) else (some false)) else (if 0 = 0 then (some false) else (if t185 = 0 then (some true) else (some false)))) else (some false)) else (some false))) else (some false)) = some true := H
            have A44 := Aside0.mk A440
            clear A440
            by_cases c45 : t170 = true
            · subst c45
              have H1 : ((check_Config.f kj29 x182000_4 x182001_4 x182002_4 x182003_4 x182004_4 x182005_4 x182006_4 x182007_4 x182008_4 x182009_4).bind fun t187 => (if t187 = 0 then (if t186 = 0 then (if t185 = (-1) then (if 0 = 0 then (if t185 = 0 then (some false) else (some true)) else (some false)) else (if 0 = 0 then (some false) else (if t185 = 0 then (some true) else (some false)))) else (some false)) else (some false))) = some true := by rw [if_pos rfl] at H; exact H
              clear H
              have H := H1
              clear H1
              replace H := Option.bind_eq_some_iff.mp H
              obtain ⟨t187, A460, H⟩ := H
              replace H : (if t187 = 0 then (if t186 = 0 then (if t185 = (-1) then (if 0 = 0 then (if t185 = 0 then (some false) else (some true)) else (some false)) else (if 0 = 0 then (some false) else (if t185 = 0 then (some true) else (some false)))) else (some false)) else (some false)) = some true := H
              have A46 := Aside0.mk A460
              clear A460
              by_cases c47 : t187 = 0
              · rw [if_pos c47] at H
                have c47b0 : (t187 == 0) = true := beq_iff_eq.mpr c47
                have c47b1 : (t187 != 0) = false := bne_eq_false_iff_eq.mpr c47
                clear c47
                by_cases c48 : t186 = 0
                · rw [if_pos c48] at H
                  have c48b0 : (t186 == 0) = true := beq_iff_eq.mpr c48
                  have c48b1 : (t186 != 0) = false := bne_eq_false_iff_eq.mpr c48
                  clear c48
                  by_cases c49 : t185 = (-1)
                  · rw [if_pos c49] at H
                    have c49b0 : (t185 == (-1)) = true := beq_iff_eq.mpr c49
                    have c49b1 : (t185 != (-1)) = false := bne_eq_false_iff_eq.mpr c49
                    clear c49
                    have H1 : (if t185 = 0 then (some false) else (some true)) = some true := by rw [if_pos (by decide)] at H; exact H
                    clear H
                    have H := H1
                    clear H1
                    by_cases c50 : t185 = 0
                    · rw [if_pos c50] at H
                      have c50b0 : (t185 == 0) = true := beq_iff_eq.mpr c50
                      have c50b1 : (t185 != 0) = false := bne_eq_false_iff_eq.mpr c50
                      clear c50
                      exact absurd H (by simp)
                    · rw [if_neg c50] at H
                      have c50b0 : (t185 == 0) = false := beq_eq_false_iff_ne.mpr c50
                      have c50b1 : (t185 != 0) = true := bne_iff_ne.mpr c50
                      clear H
                      have hcz51_0 : wc.cell? ⟨gb181, 0, none⟩ = some (.int .i64 x182000_4) := (blk_cell BK181.out 0).trans rfl
                      have hcz51_1 : wc.cell? ⟨gb181, 1, none⟩ = some (.int .i64 x182001_4) := (blk_cell BK181.out 1).trans rfl
                      have hcz51_2 : wc.cell? ⟨gb181, 2, none⟩ = some (.int .i64 x182002_4) := (blk_cell BK181.out 2).trans rfl
                      have hcz51_3 : wc.cell? ⟨gb181, 3, none⟩ = some (.int .i64 x182003_4) := (blk_cell BK181.out 3).trans rfl
                      have hcz51_4 : wc.cell? ⟨gb181, 4, none⟩ = some (.int .i64 x182004_4) := (blk_cell BK181.out 4).trans rfl
                      have hcz51_5 : wc.cell? ⟨gb181, 5, none⟩ = some (.int .i64 x182005_4) := (blk_cell BK181.out 5).trans rfl
                      have hcz51_6 : wc.cell? ⟨gb181, 6, none⟩ = some (.int .i64 x182006_4) := (blk_cell BK181.out 6).trans rfl
                      have hcz51_7 : wc.cell? ⟨gb181, 7, none⟩ = some (.int .i64 x182007_4) := (blk_cell BK181.out 7).trans rfl
                      have hcz51_8 : wc.cell? ⟨gb181, 8, none⟩ = some (.int .i64 x182008_4) := (blk_cell BK181.out 8).trans rfl
                      have hcz51_9 : wc.cell? ⟨gb181, 9, none⟩ = some (.int .i64 x182009_4) := (blk_cell BK181.out 9).trans rfl
                      have hfz51_0 := blk_frozen BK181.out 0
                      have hfz51_1 := blk_frozen BK181.out 1
                      have hfz51_2 := blk_frozen BK181.out 2
                      have hfz51_3 := blk_frozen BK181.out 3
                      have hfz51_4 := blk_frozen BK181.out 4
                      have hfz51_5 := blk_frozen BK181.out 5
                      have hfz51_6 := blk_frozen BK181.out 6
                      have hfz51_7 := blk_frozen BK181.out 7
                      have hfz51_8 := blk_frozen BK181.out 8
                      have hfz51_9 := blk_frozen BK181.out 9
                      go_wp2_with (first | ((with_reducible refine gate_callee (f := 14) rfl ?_); refine goesL_ (some 69) rfl rfl Try.func14 (by kernel_rfl) rfl #[.agg #[.int .i64 x182000_4, .int .i64 x182001_4, .int .i64 x182002_4, .int .i64 x182003_4, .int .i64 x182004_4, .int .i64 x182005_4, .int .i64 x182006_4, .int .i64 x182007_4, .int .i64 x182008_4, .int .i64 x182009_4, .slice none 0 0, .slice none 0 0]] rfl (by (try simp only [List.map_toArray, List.map_cons, List.map_nil]); first | done | rfl | (simp only [List.length_drop, List.length_take]; rfl)) ?_; (refine (check_File.calls kj29 x182000_4 x182001_4 x182002_4 x182003_4 x182004_4 x182005_4 x182006_4 x182007_4 x182008_4 x182009_4 _ _ ([] : List (S39)) _ _ ([] : List (S30)) t185 t186 _ ?side1 ?side2 ?side3 ?side4 A44.out).mono ?_); (case side1 => exact Kd.C_nil _ _); (case side2 => exact Nat.le_refl _); (case side3 => exact Kd.C_nil _ _); (case side4 => exact Nat.le_refl _); rintro e w52 ⟨rfl, hb⟩; refine ⟨_, rfl, ?_⟩; have n0_ := Aside0.mk (blk_below (g := gb181) (o := .cells #[.int .i64 x182000_4, .int .i64 x182001_4, .int .i64 x182002_4, .int .i64 x182003_4, .int .i64 x182004_4, .int .i64 x182005_4, .int .i64 x182006_4, .int .i64 x182007_4, .int .i64 x182008_4, .int .i64 x182009_4] 23 (0, 0)) (by (with_reducible repeat (first | refine blk_drewN ?_ _ | refine blk_drew ?_ | refine blk_alloc ?_ _)); exact BK181.out) hb); have n1_ := Aside0.mk (below_step (by repeat (first | (with_reducible first | exact HB.out | apply below_alloc | apply pw_below_drewN | apply below_drew1 | refine below_set ?_ GE181.out) | exact HB.out)) hb); clear BK181; clear HB; have BK181 := n0_; have HB := n1_; clear n0_ n1_; (try clear hb); (try clear hb2); (try clear hk); (try clear hi); have hcz53_0 : w52.cell? ⟨gb181, 0, none⟩ = some (.int .i64 x182000_4) := (blk_cell BK181.out 0).trans rfl; have hcz53_1 : w52.cell? ⟨gb181, 1, none⟩ = some (.int .i64 x182001_4) := (blk_cell BK181.out 1).trans rfl; have hcz53_2 : w52.cell? ⟨gb181, 2, none⟩ = some (.int .i64 x182002_4) := (blk_cell BK181.out 2).trans rfl; have hcz53_3 : w52.cell? ⟨gb181, 3, none⟩ = some (.int .i64 x182003_4) := (blk_cell BK181.out 3).trans rfl; have hcz53_4 : w52.cell? ⟨gb181, 4, none⟩ = some (.int .i64 x182004_4) := (blk_cell BK181.out 4).trans rfl; have hcz53_5 : w52.cell? ⟨gb181, 5, none⟩ = some (.int .i64 x182005_4) := (blk_cell BK181.out 5).trans rfl; have hcz53_6 : w52.cell? ⟨gb181, 6, none⟩ = some (.int .i64 x182006_4) := (blk_cell BK181.out 6).trans rfl; have hcz53_7 : w52.cell? ⟨gb181, 7, none⟩ = some (.int .i64 x182007_4) := (blk_cell BK181.out 7).trans rfl; have hcz53_8 : w52.cell? ⟨gb181, 8, none⟩ = some (.int .i64 x182008_4) := (blk_cell BK181.out 8).trans rfl; have hcz53_9 : w52.cell? ⟨gb181, 9, none⟩ = some (.int .i64 x182009_4) := (blk_cell BK181.out 9).trans rfl; have hfz53_0 := blk_frozen BK181.out 0; have hfz53_1 := blk_frozen BK181.out 1; have hfz53_2 := blk_frozen BK181.out 2; have hfz53_3 := blk_frozen BK181.out 3; have hfz53_4 := blk_frozen BK181.out 4; have hfz53_5 := blk_frozen BK181.out 5; have hfz53_6 := blk_frozen BK181.out 6; have hfz53_7 := blk_frozen BK181.out 7; have hfz53_8 := blk_frozen BK181.out 8; have hfz53_9 := blk_frozen BK181.out 9) | (go_at_call 17; (with_reducible refine (check_Config.calls kj29 x182000_4 x182001_4 x182002_4 x182003_4 x182004_4 x182005_4 x182006_4 x182007_4 x182008_4 x182009_4 t187 _ A46.out).mono ?_); rintro e w54 ⟨rfl, hb⟩; have n0_ := Aside0.mk (blk_below (g := gb181) (o := .cells #[.int .i64 x182000_4, .int .i64 x182001_4, .int .i64 x182002_4, .int .i64 x182003_4, .int .i64 x182004_4, .int .i64 x182005_4, .int .i64 x182006_4, .int .i64 x182007_4, .int .i64 x182008_4, .int .i64 x182009_4] 23 (0, 0)) (by (with_reducible repeat (first | refine blk_drewN ?_ _ | refine blk_drew ?_ | refine blk_alloc ?_ _)); exact BK181.out) hb); have n1_ := Aside0.mk (below_step (by repeat (first | (with_reducible first | exact HB.out | apply below_alloc | apply pw_below_drewN | apply below_drew1 | refine below_set ?_ GE181.out) | exact HB.out)) hb); clear BK181; clear HB; have BK181 := n0_; have HB := n1_; clear n0_ n1_; (try clear hb); (try clear hb2); (try clear hk); (try clear hi)))
                      go_ret
                      exact ⟨by first | rfl | (simp [errW_none, errW_some] <;> rfl) | (simp [*, errW_none, errW_some] <;> rfl), by repeat (first | (with_reducible first | exact HB.out | apply below_alloc | apply pw_below_drewN | apply below_drew1 | refine below_set ?_ GE181.out) | exact HB.out)⟩
                  · rw [if_neg c49] at H
                    have c49b0 : (t185 == (-1)) = false := beq_eq_false_iff_ne.mpr c49
                    have c49b1 : (t185 != (-1)) = true := bne_iff_ne.mpr c49
                    have H1 : (some false) = some true := by rw [if_pos (by decide)] at H; exact H
                    clear H
                    have H := H1
                    clear H1
                    exact absurd H (by simp)
                · rw [if_neg c48] at H
                  have c48b0 : (t186 == 0) = false := beq_eq_false_iff_ne.mpr c48
                  have c48b1 : (t186 != 0) = true := bne_iff_ne.mpr c48
                  exact absurd H (by simp)
              · rw [if_neg c47] at H
                have c47b0 : (t187 == 0) = false := beq_eq_false_iff_ne.mpr c47
                have c47b1 : (t187 != 0) = true := bne_iff_ne.mpr c47
                exact absurd H (by simp)
            · replace c45 := Bool.eq_false_iff.mpr c45
              subst c45
              have H1 : (some false) = some true := by rw [if_neg (show ¬ (false = true) by decide)] at H; exact H
              clear H
              have H := H1
              clear H1
              exact absurd H (by simp)

/-- THE ONE PURE STATEMENT of millwrightlaw04_CheckNumbers: yours. -/
def millwrightlaw04_CheckNumbers.Pure : Prop := ∀ (a0 : Int) (a1 : Int), (Lit.int .i64 a0).wf = true → (Lit.int .i64 a1).wf = true → ∃ k, millwrightlaw04_CheckNumbers.f k a0 a1 = some true
theorem millwrightlaw04_CheckNumbers.walk (P : millwrightlaw04_CheckNumbers.Pure) (a0 : Int) (a1 : Int) (w : World) (w0 : (Lit.int .i64 a0).wf = true) (w1 : (Lit.int .i64 a1).wf = true) :
    Calls Try.prog 4 #[.int .i64 a0, .int .i64 a1] w fun e w' => e = .returned (.bool true) ∧ Below w.heap.size w w' := by
  obtain ⟨k, h⟩ := P a0 a1 w0 w1
  refine (millwrightlaw04_CheckNumbers.calls k a0 a1 w h).mono ?_
  rintro e w' ⟨rfl, hd⟩
  exact ⟨rfl, hd⟩

end Go.Proofs.Ytkldfjlbgmppfaa.MCheckNumbers
