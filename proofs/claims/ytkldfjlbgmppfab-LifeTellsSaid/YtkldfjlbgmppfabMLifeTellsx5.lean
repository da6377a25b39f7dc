-- Written by a program of this session out of Lean's own print of the program. Not trusted: Lean checks it.
import Derived.Test.YtkldfjlbgmppfabMLifeTellsx0
import Derived.Test.YtkldfjlbgmppfabMLifeTellsx1
import Derived.Test.YtkldfjlbgmppfabMLifeTellsx2
import Derived.Test.YtkldfjlbgmppfabMLifeTellsx3
import Derived.Test.YtkldfjlbgmppfabMLifeTellsx4
namespace Go.Proofs.Ytkldfjlbgmppfab.MLifeTells
open Go.RowKit Go.Proofs.YtkldfjlbgmppfabW.PrintWords Go.Proofs.YtkldfjlbgmppfabW.PrintLast Go.Proofs.YtkldfjlbgmppfabW.PrintMore
attribute [local go_sem] max2_int min2_int max_two min_two max_three min_three max_four min_four Wide.cell_twice  -- for this text's walks alone
set_option linter.unusedVariables false
set_option linter.unusedSimpArgs false

/-! ### millwrightlaw09_LifeTells: function 11 -/
mutual
def millwrightlaw09_LifeTells.l0 : Nat → List Int → Int → Bool → Int → Int → Int → Int → Int → Int → Int → Int → Int → Int → Int → Int → Int → Option (Bool)
  | 0, _, _, _, _, _, _, _, _, _, _, _, _, _, _, _, _ => none
  | k + 1, x2, x3, x9, x12, x446000, x446001, x446002, x446003, x446004, x446005, x453000, x453001, x453002, x453003, x453004, x453005 => if x12 < (x2.length : Int) then (millwrightlaw09_LifeTells.j1 k x2 x3 x9 x12 (decide (x12 < 300)) x446000 x446001 x446002 x446003 x446004 x446005 x453000 x453001 x453002 x453003 x453004 x453005) else (millwrightlaw09_LifeTells.j1 k x2 x3 x9 x12 false x446000 x446001 x446002 x446003 x446004 x446005 x453000 x453001 x453002 x453003 x453004 x453005)
def millwrightlaw09_LifeTells.j1 : Nat → List Int → Int → Bool → Int → Bool → Int → Int → Int → Int → Int → Int → Int → Int → Int → Int → Int → Int → Option (Bool)
  | 0, _, _, _, _, _, _, _, _, _, _, _, _, _, _, _, _, _ => none
  | k + 1, x2, x3, x9, x12, x34, x446000, x446001, x446002, x446003, x446004, x446005, x453000, x453001, x453002, x453003, x453004, x453005 => if x34 = true then (if 0 ≤ x12 then (if x12 < (x2.length : Int) then ((millwrightlaw09_does.f k x446000 x446001 x446002 x446003 x446004 x446005 (wrap64 (Int.tmod (rd x2 x12) 11))).bind fun bt454 => ((millwrightref09_Do.f k x453000 x453001 x453002 x453003 x453004 x453005 (wrap64 (Int.tmod (rd x2 x12) 11))).bind fun bt461 => (if bt461.2.2.1 = 2 then (millwrightlaw09_LifeTells.j2 k x2 x3 x9 x12 bt454.1 bt461.2.2.2.2.2.2 7 (bt461.2.2.2.1 == x3) bt454.2.1 bt454.2.2.1 bt454.2.2.2.1 bt454.2.2.2.2.1 bt454.2.2.2.2.2.1 bt454.2.2.2.2.2.2 bt461.1 bt461.2.1 bt461.2.2.1 bt461.2.2.2.1 bt461.2.2.2.2.1 bt461.2.2.2.2.2.1) else (millwrightlaw09_LifeTells.j2 k x2 x3 x9 x12 bt454.1 bt461.2.2.2.2.2.2 7 false bt454.2.1 bt454.2.2.1 bt454.2.2.2.1 bt454.2.2.2.2.1 bt454.2.2.2.2.2.1 bt454.2.2.2.2.2.2 bt461.1 bt461.2.1 bt461.2.2.1 bt461.2.2.2.1 bt461.2.2.2.2.1 bt461.2.2.2.2.2.1)))) else (none)) else (none)) else (some x9)
def millwrightlaw09_LifeTells.j2 : Nat → List Int → Int → Bool → Int → Int → Int → Int → Bool → Int → Int → Int → Int → Int → Int → Int → Int → Int → Int → Int → Int → Option (Bool)
  | 0, _, _, _, _, _, _, _, _, _, _, _, _, _, _, _, _, _, _, _, _ => none
  | k + 1, x2, x3, x9, x12, x14, x16, x17, x61, x446000, x446001, x446002, x446003, x446004, x446005, x453000, x453001, x453002, x453003, x453004, x453005 => if x61 = true then (millwrightlaw09_LifeTells.j3 k x2 x3 x9 x12 x14 x16 0 x446000 x446001 x446002 x446003 x446004 x446005 x453000 x453001 x453002 x453003 x453004 x453005) else (millwrightlaw09_LifeTells.j3 k x2 x3 x9 x12 x14 x16 x17 x446000 x446001 x446002 x446003 x446004 x446005 x453000 x453001 x453002 x453003 x453004 x453005)
def millwrightlaw09_LifeTells.j3 : Nat → List Int → Int → Bool → Int → Int → Int → Int → Int → Int → Int → Int → Int → Int → Int → Int → Int → Int → Int → Int → Option (Bool)
  | 0, _, _, _, _, _, _, _, _, _, _, _, _, _, _, _, _, _, _, _ => none
  | k + 1, x2, x3, x9, x12, x14, x16, x17, x446000, x446001, x446002, x446003, x446004, x446005, x453000, x453001, x453002, x453003, x453004, x453005 => if x14 = x16 then ((life_Life_State.f x446000 x446001 x446002 x446003 x446004 x446005).bind fun bt469 => (if bt469.1 = x453002 then ((life_Life_Epoch.f bt469.2.1 bt469.2.2.1 bt469.2.2.2.1 bt469.2.2.2.2.1 bt469.2.2.2.2.2.1 bt469.2.2.2.2.2.2).bind fun bt476 => (if bt476.1 = x453003 then ((life_Life_Missed.f bt476.2.1 bt476.2.2.1 bt476.2.2.2.1 bt476.2.2.2.2.1 bt476.2.2.2.2.2.1 bt476.2.2.2.2.2.2).bind fun bt483 => (if bt483.1 = x453004 then ((life_Life_Stopped.f bt483.2.1 bt483.2.2.1 bt483.2.2.2.1 bt483.2.2.2.2.1 bt483.2.2.2.2.2.1 bt483.2.2.2.2.2.2).bind fun bt490 => (if bt490.1 = x453005 then ((life_Life_Final.f bt490.2.1 bt490.2.2.1 bt490.2.2.2.1 bt490.2.2.2.2.1 bt490.2.2.2.2.2.1 bt490.2.2.2.2.2.2).bind fun bt497 => (if bt497.1 = true then (if x453002 ≥ 5 then ((life_Life_Right.f bt497.2.1 bt497.2.2.1 bt497.2.2.2.1 bt497.2.2.2.2.1 bt497.2.2.2.2.2.1 bt497.2.2.2.2.2.2 x3).bind fun bt504 => (if bt504.1 = x17 then (millwrightlaw09_LifeTells.l0 k x2 x3 x9 (wrap64 (x12 + 1)) bt504.2.1 bt504.2.2.1 bt504.2.2.2.1 bt504.2.2.2.2.1 bt504.2.2.2.2.2.1 bt504.2.2.2.2.2.2 x453000 x453001 x453002 x453003 x453004 x453005) else (some false))) else (some false)) else (if x453002 ≥ 5 then (some false) else ((life_Life_Right.f bt497.2.1 bt497.2.2.1 bt497.2.2.2.1 bt497.2.2.2.2.1 bt497.2.2.2.2.2.1 bt497.2.2.2.2.2.2 x3).bind fun bt511 => (if bt511.1 = x17 then (millwrightlaw09_LifeTells.l0 k x2 x3 x9 (wrap64 (x12 + 1)) bt511.2.1 bt511.2.2.1 bt511.2.2.2.1 bt511.2.2.2.2.1 bt511.2.2.2.2.2.1 bt511.2.2.2.2.2.2 x453000 x453001 x453002 x453003 x453004 x453005) else (some false)))))) else (some false))) else (some false))) else (some false))) else (some false))) else (some false)
end
def millwrightlaw09_LifeTells.f (k : Nat) (a0 : Int) (a1 : Int) (l2 : List Int) (a3 : Int) : Option (Bool) := (millwrightlaw09_shown.f k).bind fun t438 => ((life_New.f a0 a1).bind fun bt439 => ((millwrightref09_New.f a0 a1).bind fun bt446 => (millwrightlaw09_LifeTells.l0 k l2 a3 t438 0 bt439.1 bt439.2.1 bt439.2.2.1 bt439.2.2.2.1 bt439.2.2.2.2.1 bt439.2.2.2.2.2 bt446.1 bt446.2.1 bt446.2.2.1 bt446.2.2.2.1 bt446.2.2.2.2.1 bt446.2.2.2.2.2)))
theorem millwrightlaw09_LifeTells.mono_l : ∀ k, (∀ y0 y1 y2 y3 y4 y5 y6 y7 y8 y9 y10 y11 y12 y13 y14 y15, LeO (millwrightlaw09_LifeTells.l0 k y0 y1 y2 y3 y4 y5 y6 y7 y8 y9 y10 y11 y12 y13 y14 y15) (millwrightlaw09_LifeTells.l0 (k + 1) y0 y1 y2 y3 y4 y5 y6 y7 y8 y9 y10 y11 y12 y13 y14 y15)) ∧ (∀ y0 y1 y2 y3 y4 y5 y6 y7 y8 y9 y10 y11 y12 y13 y14 y15 y16, LeO (millwrightlaw09_LifeTells.j1 k y0 y1 y2 y3 y4 y5 y6 y7 y8 y9 y10 y11 y12 y13 y14 y15 y16) (millwrightlaw09_LifeTells.j1 (k + 1) y0 y1 y2 y3 y4 y5 y6 y7 y8 y9 y10 y11 y12 y13 y14 y15 y16)) ∧ (∀ y0 y1 y2 y3 y4 y5 y6 y7 y8 y9 y10 y11 y12 y13 y14 y15 y16 y17 y18 y19, LeO (millwrightlaw09_LifeTells.j2 k y0 y1 y2 y3 y4 y5 y6 y7 y8 y9 y10 y11 y12 y13 y14 y15 y16 y17 y18 y19) (millwrightlaw09_LifeTells.j2 (k + 1) y0 y1 y2 y3 y4 y5 y6 y7 y8 y9 y10 y11 y12 y13 y14 y15 y16 y17 y18 y19)) ∧ (∀ y0 y1 y2 y3 y4 y5 y6 y7 y8 y9 y10 y11 y12 y13 y14 y15 y16 y17 y18, LeO (millwrightlaw09_LifeTells.j3 k y0 y1 y2 y3 y4 y5 y6 y7 y8 y9 y10 y11 y12 y13 y14 y15 y16 y17 y18) (millwrightlaw09_LifeTells.j3 (k + 1) y0 y1 y2 y3 y4 y5 y6 y7 y8 y9 y10 y11 y12 y13 y14 y15 y16 y17 y18))
  | 0 => ⟨fun _ _ _ _ _ _ _ _ _ _ _ _ _ _ _ _ r h => by simp [millwrightlaw09_LifeTells.l0] at h, fun _ _ _ _ _ _ _ _ _ _ _ _ _ _ _ _ _ r h => by simp [millwrightlaw09_LifeTells.j1] at h, fun _ _ _ _ _ _ _ _ _ _ _ _ _ _ _ _ _ _ _ _ r h => by simp [millwrightlaw09_LifeTells.j2] at h, fun _ _ _ _ _ _ _ _ _ _ _ _ _ _ _ _ _ _ _ r h => by simp [millwrightlaw09_LifeTells.j3] at h⟩
  | k + 1 => by
    obtain ⟨ih0, ih1, ih2, ih3⟩ := millwrightlaw09_LifeTells.mono_l k
    refine ⟨?_, ?_, ?_, ?_⟩
    · intro y0 y1 y2 y3 y4 y5 y6 y7 y8 y9 y10 y11 y12 y13 y14 y15
      unfold millwrightlaw09_LifeTells.l0
      repeat' first
      | (with_reducible exact ih0 _ _ _ _ _ _ _ _ _ _ _ _ _ _ _ _)
      | (with_reducible exact ih1 _ _ _ _ _ _ _ _ _ _ _ _ _ _ _ _ _)
      | (with_reducible exact ih2 _ _ _ _ _ _ _ _ _ _ _ _ _ _ _ _ _ _ _ _)
      | (with_reducible exact ih3 _ _ _ _ _ _ _ _ _ _ _ _ _ _ _ _ _ _ _)
      | (with_reducible exact millwrightlaw09_does.mono _ _ _ _ _ _ _ _)
      | (with_reducible exact millwrightlaw09_shown.mono _)
      | (with_reducible exact millwrightref09_Do.mono _ _ _ _ _ _ _ _)
      | (with_reducible exact LeO.refl _)
      | (with_reducible exact LeO.none _)
      | (with_reducible refine LeO.ite ?_ ?_)
      | (with_reducible refine LeO.bind ?_ (fun _ => ?_))
      | exact ih0 _ _ _ _ _ _ _ _ _ _ _ _ _ _ _ _
      | exact ih1 _ _ _ _ _ _ _ _ _ _ _ _ _ _ _ _ _
      | exact ih2 _ _ _ _ _ _ _ _ _ _ _ _ _ _ _ _ _ _ _ _
      | exact ih3 _ _ _ _ _ _ _ _ _ _ _ _ _ _ _ _ _ _ _
      | exact millwrightlaw09_does.mono _ _ _ _ _ _ _ _
      | exact millwrightlaw09_shown.mono _
      | exact millwrightref09_Do.mono _ _ _ _ _ _ _ _
      | exact LeO.none _
      | refine LeO.ite ?_ ?_
      | refine LeO.bind ?_ (fun _ => ?_)
    · intro y0 y1 y2 y3 y4 y5 y6 y7 y8 y9 y10 y11 y12 y13 y14 y15 y16
      unfold millwrightlaw09_LifeTells.j1
      repeat' first
      | (with_reducible exact ih0 _ _ _ _ _ _ _ _ _ _ _ _ _ _ _ _)
      | (with_reducible exact ih1 _ _ _ _ _ _ _ _ _ _ _ _ _ _ _ _ _)
      | (with_reducible exact ih2 _ _ _ _ _ _ _ _ _ _ _ _ _ _ _ _ _ _ _ _)
      | (with_reducible exact ih3 _ _ _ _ _ _ _ _ _ _ _ _ _ _ _ _ _ _ _)
      | (with_reducible exact millwrightlaw09_does.mono _ _ _ _ _ _ _ _)
      | (with_reducible exact millwrightlaw09_shown.mono _)
      | (with_reducible exact millwrightref09_Do.mono _ _ _ _ _ _ _ _)
      | (with_reducible exact LeO.refl _)
      | (with_reducible exact LeO.none _)
      | (with_reducible refine LeO.ite ?_ ?_)
      | (with_reducible refine LeO.bind ?_ (fun _ => ?_))
      | exact ih0 _ _ _ _ _ _ _ _ _ _ _ _ _ _ _ _
      | exact ih1 _ _ _ _ _ _ _ _ _ _ _ _ _ _ _ _ _
      | exact ih2 _ _ _ _ _ _ _ _ _ _ _ _ _ _ _ _ _ _ _ _
      | exact ih3 _ _ _ _ _ _ _ _ _ _ _ _ _ _ _ _ _ _ _
      | exact millwrightlaw09_does.mono _ _ _ _ _ _ _ _
      | exact millwrightlaw09_shown.mono _
      | exact millwrightref09_Do.mono _ _ _ _ _ _ _ _
      | exact LeO.none _
      | refine LeO.ite ?_ ?_
      | refine LeO.bind ?_ (fun _ => ?_)
    · intro y0 y1 y2 y3 y4 y5 y6 y7 y8 y9 y10 y11 y12 y13 y14 y15 y16 y17 y18 y19
      unfold millwrightlaw09_LifeTells.j2
      repeat' first
      | (with_reducible exact ih0 _ _ _ _ _ _ _ _ _ _ _ _ _ _ _ _)
      | (with_reducible exact ih1 _ _ _ _ _ _ _ _ _ _ _ _ _ _ _ _ _)
      | (with_reducible exact ih2 _ _ _ _ _ _ _ _ _ _ _ _ _ _ _ _ _ _ _ _)
      | (with_reducible exact ih3 _ _ _ _ _ _ _ _ _ _ _ _ _ _ _ _ _ _ _)
      | (with_reducible exact millwrightlaw09_does.mono _ _ _ _ _ _ _ _)
      | (with_reducible exact millwrightlaw09_shown.mono _)
      | (with_reducible exact millwrightref09_Do.mono _ _ _ _ _ _ _ _)
      | (with_reducible exact LeO.refl _)
      | (with_reducible exact LeO.none _)
      | (with_reducible refine LeO.ite ?_ ?_)
      | (with_reducible refine LeO.bind ?_ (fun _ => ?_))
      | exact ih0 _ _ _ _ _ _ _ _ _ _ _ _ _ _ _ _
      | exact ih1 _ _ _ _ _ _ _ _ _ _ _ _ _ _ _ _ _
      | exact ih2 _ _ _ _ _ _ _ _ _ _ _ _ _ _ _ _ _ _ _ _
      | exact ih3 _ _ _ _ _ _ _ _ _ _ _ _ _ _ _ _ _ _ _
      | exact millwrightlaw09_does.mono _ _ _ _ _ _ _ _
      | exact millwrightlaw09_shown.mono _
      | exact millwrightref09_Do.mono _ _ _ _ _ _ _ _
      | exact LeO.none _
      | refine LeO.ite ?_ ?_
      | refine LeO.bind ?_ (fun _ => ?_)
    · intro y0 y1 y2 y3 y4 y5 y6 y7 y8 y9 y10 y11 y12 y13 y14 y15 y16 y17 y18
      unfold millwrightlaw09_LifeTells.j3
      repeat' first
      | (with_reducible exact ih0 _ _ _ _ _ _ _ _ _ _ _ _ _ _ _ _)
      | (with_reducible exact ih1 _ _ _ _ _ _ _ _ _ _ _ _ _ _ _ _ _)
      | (with_reducible exact ih2 _ _ _ _ _ _ _ _ _ _ _ _ _ _ _ _ _ _ _ _)
      | (with_reducible exact ih3 _ _ _ _ _ _ _ _ _ _ _ _ _ _ _ _ _ _ _)
      | (with_reducible exact millwrightlaw09_does.mono _ _ _ _ _ _ _ _)
      | (with_reducible exact millwrightlaw09_shown.mono _)
      | (with_reducible exact millwrightref09_Do.mono _ _ _ _ _ _ _ _)
      | (with_reducible exact LeO.refl _)
      | (with_reducible exact LeO.none _)
      | (with_reducible refine LeO.ite ?_ ?_)
      | (with_reducible refine LeO.bind ?_ (fun _ => ?_))
      | exact ih0 _ _ _ _ _ _ _ _ _ _ _ _ _ _ _ _
      | exact ih1 _ _ _ _ _ _ _ _ _ _ _ _ _ _ _ _ _
      | exact ih2 _ _ _ _ _ _ _ _ _ _ _ _ _ _ _ _ _ _ _ _
      | exact ih3 _ _ _ _ _ _ _ _ _ _ _ _ _ _ _ _ _ _ _
      | exact millwrightlaw09_does.mono _ _ _ _ _ _ _ _
      | exact millwrightlaw09_shown.mono _
      | exact millwrightref09_Do.mono _ _ _ _ _ _ _ _
      | exact LeO.none _
      | refine LeO.ite ?_ ?_
      | refine LeO.bind ?_ (fun _ => ?_)
theorem millwrightlaw09_LifeTells.mono : ∀ a0 a1 a2 a3 k, LeO (millwrightlaw09_LifeTells.f k a0 a1 a2 a3) (millwrightlaw09_LifeTells.f (k + 1) a0 a1 a2 a3) := by
  intro a0 a1 a2 a3 k
  obtain ⟨ih0, ih1, ih2, ih3⟩ := millwrightlaw09_LifeTells.mono_l k
  unfold millwrightlaw09_LifeTells.f
  repeat' first
      | (with_reducible exact ih0 _ _ _ _ _ _ _ _ _ _ _ _ _ _ _ _)
      | (with_reducible exact ih1 _ _ _ _ _ _ _ _ _ _ _ _ _ _ _ _ _)
      | (with_reducible exact ih2 _ _ _ _ _ _ _ _ _ _ _ _ _ _ _ _ _ _ _ _)
      | (with_reducible exact ih3 _ _ _ _ _ _ _ _ _ _ _ _ _ _ _ _ _ _ _)
      | (with_reducible exact millwrightlaw09_does.mono _ _ _ _ _ _ _ _)
      | (with_reducible exact millwrightlaw09_shown.mono _)
      | (with_reducible exact millwrightref09_Do.mono _ _ _ _ _ _ _ _)
      | (with_reducible exact LeO.refl _)
      | (with_reducible exact LeO.none _)
      | (with_reducible refine LeO.ite ?_ ?_)
      | (with_reducible refine LeO.bind ?_ (fun _ => ?_))
      | exact ih0 _ _ _ _ _ _ _ _ _ _ _ _ _ _ _ _
      | exact ih1 _ _ _ _ _ _ _ _ _ _ _ _ _ _ _ _ _
      | exact ih2 _ _ _ _ _ _ _ _ _ _ _ _ _ _ _ _ _ _ _ _
      | exact ih3 _ _ _ _ _ _ _ _ _ _ _ _ _ _ _ _ _ _ _
      | exact millwrightlaw09_does.mono _ _ _ _ _ _ _ _
      | exact millwrightlaw09_shown.mono _
      | exact millwrightref09_Do.mono _ _ _ _ _ _ _ _
      | exact LeO.none _
      | refine LeO.ite ?_ ?_
      | refine LeO.bind ?_ (fun _ => ?_)
def millwrightlaw09_LifeTells.T16 : Bool × List (List Nat × List Nat) := (true, [([], []), ([], []), ([0, 1], [0, 1]), ([2], [2]), ([3], [3]), ([4, 3, 3], [3, 4]), ([3], [3]), ([6, 3], [3, 6]), ([5, 7, 3], [3, 5, 7]), ([3, 8], [3, 8]), ([9, 5], [9]), ([10], [10]), ([11, 10, 10], [10, 11]), ([10], [10]), ([13, 10], [10, 13]), ([12, 14, 10], [10, 12, 14]), ([10, 15], [10, 15]), ([16, 12], [16]), ([17], [17]), ([18, 17, 17], [17, 18]), ([17], [17]), ([20, 17], [17, 20]), ([19, 21, 17], [17, 19, 21]), ([17, 22], [17, 22]), ([23, 19], [23]), ([24], [24]), ([25, 24, 24], [24, 25]), ([24], [24]), ([27, 24], [24, 27]), ([26, 28, 24], [24, 26, 28]), ([24, 29], [24, 29]), ([30, 26], [30]), ([31], [31]), ([32, 31, 31], [31, 32]), ([31], [31]), ([34, 31], [31, 34]), ([35, 31], [31, 35]), ([33, 36, 31], [31, 33, 36]), ([31, 37], [31, 37]), ([38, 33], [38]), ([39], [39]), ([39], [39]), ([40, 41, 39, 39], [39, 40, 41]), ([39], [39]), ([42, 43, 39], [39, 42, 43]), ([39, 44], [39, 44])])
def millwrightlaw09_LifeTells.B16 : List Nat := [0, 0, 3, 7, 15, 31, 15, 79, 255, 511, 1023, 2047, 4095, 2047, 10239, 32767, 65535, 131071, 262143, 524287, 262143, 1310719, 4194303, 8388607, 16777215, 33554431, 67108863, 33554431, 167772159, 536870911, 1073741823, 2147483647, 4294967295, 8589934591, 4294967295, 21474836479, 55834574847, 137438953471, 274877906943, 549755813887, 1099511627775, 1099511627775, 4398046511103, 1099511627775, 17592186044415, 35184372088831]
theorem millwrightlaw09_LifeTells.tab16 : rtab .any (opsOf Try.f11 16) = millwrightlaw09_LifeTells.T16 := by kernel_rfl
theorem millwrightlaw09_LifeTells.bits16 : waitsOk millwrightlaw09_LifeTells.T16.2 millwrightlaw09_LifeTells.B16 = true := by kernel_rfl
set_option maxHeartbeats 8000000 in
set_option maxRecDepth 100000 in
theorem millwrightlaw09_LifeTells.calls (k : Nat) (a0 : Int) (a1 : Int) (A2 : Option Addr) (c2 : Nat) (l2 : List Int) (a3 : Int) (w : World) (hr2 : Kd.C (Kd.int .u8) w A2 l2.length l2) (hc2 : l2.length ≤ c2) (h : millwrightlaw09_LifeTells.f k a0 a1 l2 a3 = some true) :
    Calls Try.prog 11 #[.int .i64 a0, .int .i64 a1, .slice A2 l2.length c2, .int .i64 a3] w fun e w' => e = .returned (.bool true) ∧ Below w.heap.size w w' := by
  have hu53 := Try.underlying53
  have HR2 := Aside0.mk hr2
  have HC2 := Aside0.mk hc2
  clear hr2 hc2
  have HB := Aside0.mk (Below.refl w.heap.size w)
  have H : ((millwrightlaw09_shown.f k).bind fun t438 => ((life_New.f a0 a1).bind fun bt439 => ((millwrightref09_New.f a0 a1).bind fun bt446 => (millwrightlaw09_LifeTells.l0 k l2 a3 t438 0 bt439.1 bt439.2.1 bt439.2.2.1 bt439.2.2.2.1 bt439.2.2.2.2.1 bt439.2.2.2.2.2 bt446.1 bt446.2.1 bt446.2.2.1 bt446.2.2.2.1 bt446.2.2.2.2.1 bt446.2.2.2.2.2)))) = some true := h
  clear h
  replace H := Option.bind_eq_some_iff.mp H
  obtain ⟨t438, A50, H⟩ := H
  replace H : ((life_New.f a0 a1).bind fun bt439 => ((millwrightref09_New.f a0 a1).bind fun bt446 => (millwrightlaw09_LifeTells.l0 k l2 a3 t438 0 bt439.1 bt439.2.1 bt439.2.2.1 bt439.2.2.2.1 bt439.2.2.2.2.1 bt439.2.2.2.2.2 bt446.1 bt446.2.1 bt446.2.2.1 bt446.2.2.2.1 bt446.2.2.2.2.1 bt446.2.2.2.2.2))) = some true := H
  have A5 := Aside0.mk A50
  clear A50
  replace H := Option.bind_eq_some_iff.mp H
  obtain ⟨⟨t439, t440, t441, t442, t443, t444⟩, A60, H⟩ := H
  replace H : ((millwrightref09_New.f a0 a1).bind fun bt446 => (millwrightlaw09_LifeTells.l0 k l2 a3 t438 0 t439 t440 t441 t442 t443 t444 bt446.1 bt446.2.1 bt446.2.2.1 bt446.2.2.2.1 bt446.2.2.2.2.1 bt446.2.2.2.2.2)) = some true := H
  have A6 := Aside0.mk A60
  clear A60
  replace H := Option.bind_eq_some_iff.mp H
  obtain ⟨⟨t446, t447, t448, t449, t450, t451⟩, A70, H⟩ := H
  replace H : (millwrightlaw09_LifeTells.l0 k l2 a3 t438 0 t439 t440 t441 t442 t443 t444 t446 t447 t448 t449 t450 t451) = some true := H
  have A7 := Aside0.mk A70
  clear A70
  have H' := Aside0.mk H
  clear H
  go_enter Try.func11, Try.ntmps11
  go_wp2_with (first | ((with_reducible refine gate_callee (f := 15) rfl ?_); refine goesL_ (some 18) rfl rfl Try.func15 (by kernel_rfl) rfl #[] rfl (by (try simp only [List.map_toArray, List.map_cons, List.map_nil]); first | done | rfl | (simp only [List.length_drop, List.length_take]; rfl)) ?_; (with_reducible refine (millwrightlaw09_shown.calls k  t438 _ A5.out).mono ?_); rintro e w8 ⟨rfl, hb⟩; refine ⟨_, rfl, ?_⟩; have n0_ := Aside0.mk (below_step (by repeat (first | (with_reducible first | exact HB.out | apply below_alloc | apply pw_below_drewN | apply below_drew1) | exact HB.out)) hb); clear HB; have HB := n0_; clear n0_; (try clear hb); (try clear hb2); (try clear hk); (try clear hi)) | ((with_reducible refine gate_callee (f := 16) rfl ?_); refine goesL_ (some 21) rfl rfl Try.func16 (by kernel_rfl) rfl #[.int .i64 a0, .int .i64 a1] rfl (by (try simp only [List.map_toArray, List.map_cons, List.map_nil]); first | done | rfl | (simp only [List.length_drop, List.length_take]; rfl)) ?_; (with_reducible refine (life_New.calls a0 a1 t439 t440 t441 t442 t443 t444 w _ ?side1 A6.out).mono ?_); (case side1 => repeat (first | (with_reducible first | exact HB.out | apply below_alloc | apply pw_below_drewN | apply below_drew1) | exact HB.out)); rintro e w9 ⟨g445, rfl, hi, hb, hb2⟩; refine ⟨_, rfl, ?_⟩; have n0_ := Aside0.mk (hb); have n1_ := Aside0.mk (hi); clear HB; have HB := n0_; have HI445 := n1_; clear n0_ n1_; (try clear hb); (try clear hb2); (try clear hk); (try clear hi)) | ((with_reducible refine gate_callee (f := 39) rfl ?_); refine goesL_ (some 24) rfl rfl Try.func39 (by kernel_rfl) rfl #[.int .i64 a0, .int .i64 a1] rfl (by (try simp only [List.map_toArray, List.map_cons, List.map_nil]); first | done | rfl | (simp only [List.length_drop, List.length_take]; rfl)) ?_; (with_reducible refine (millwrightref09_New.calls a0 a1 t446 t447 t448 t449 t450 t451 _ A7.out).mono ?_); rintro e w10 ⟨rfl, hb⟩; refine ⟨_, rfl, ?_⟩; have n0_ := Aside0.mk (IsS62.below (by repeat (first | (with_reducible first | exact HI445.out | apply IsS62.alloc | apply IsS62.drewN | apply IsS62.drew | apply IsS62.set_0 | apply IsS62.set_1 | apply IsS62.set_2 | apply IsS62.set_3 | apply IsS62.set_4 | apply IsS62.set_5) | exact HI445.out)) hb); have n1_ := Aside0.mk (below_step (by repeat (first | (with_reducible first | exact HB.out | apply below_alloc | apply pw_below_drewN | apply below_drew1 | refine below_set ?_ (IsS62.ge HI445.out)) | exact HB.out)) hb); clear HI445; clear HB; have HI445 := n0_; have HB := n1_; clear n0_ n1_; (try clear hb); (try clear hb2); (try clear hk); (try clear hi)) | ((with_reducible refine gate_dst (N := 11) rfl ?_); refine box_event ?hg (N := 11) ?hd (cs := #[.int .i64 0, .int .i64 0, .int .i64 0, .int .i64 0, .int .i64 0, .int .i64 0]) (t := 53) ?hr ?_; (case hd => rfl); (case hg => rfl); (case hr => first | (go_simp; done) | (go_simp; rfl)); intro gb452 hg w11 hbox hb; have n0_ := Aside0.mk (IsS62.below (by repeat (first | (with_reducible first | exact HI445.out | apply IsS62.alloc | apply IsS62.drewN | apply IsS62.drew | apply IsS62.set_0 | apply IsS62.set_1 | apply IsS62.set_2 | apply IsS62.set_3 | apply IsS62.set_4 | apply IsS62.set_5) | exact HI445.out)) hb); have n1_ := Aside0.mk (below_step (by repeat (first | (with_reducible first | exact HB.out | apply below_alloc | apply pw_below_drewN | apply below_drew1 | refine below_set ?_ (IsS62.ge HI445.out)) | exact HB.out)) hb); have n2_ := Aside0.mk (hbox); have n3_ := Aside0.mk ((by rw [hg]; exact (below_size (by repeat (first | (with_reducible first | exact HB.out | apply below_alloc | apply pw_below_drewN | apply below_drew1 | refine below_set ?_ (IsS62.ge HI445.out)) | exact HB.out))) : w.heap.size ≤ gb452)); have n4_ := Aside0.mk ((by rw [hg]; exact (below_size (by repeat (first | (with_reducible first | exact HB.out | apply below_alloc | apply pw_below_drewN | apply below_drew1 | refine below_set ?_ (IsS62.ge HI445.out)) | exact HB.out))) : w.heap.size ≤ gb452)); have n5_ := Aside0.mk ((by rw [hg]; exact Nat.ne_of_lt (IsS62.lt (show IsS62 w _ g445 t439 t440 t441 t442 t443 t444 from by repeat (first | (with_reducible first | exact HI445.out | apply IsS62.alloc | apply IsS62.drewN | apply IsS62.drew | apply IsS62.set_0 | apply IsS62.set_1 | apply IsS62.set_2 | apply IsS62.set_3 | apply IsS62.set_4 | apply IsS62.set_5) | exact HI445.out))) : g445 ≠ gb452)); have n6_ := Aside0.mk ((by rw [hg]; exact Nat.ne_of_gt (IsS62.lt (show IsS62 w _ g445 t439 t440 t441 t442 t443 t444 from by repeat (first | (with_reducible first | exact HI445.out | apply IsS62.alloc | apply IsS62.drewN | apply IsS62.drew | apply IsS62.set_0 | apply IsS62.set_1 | apply IsS62.set_2 | apply IsS62.set_3 | apply IsS62.set_4 | apply IsS62.set_5) | exact HI445.out))) : gb452 ≠ g445)); clear HI445; clear HB; have HI445 := n0_; have HB := n1_; have BK452 := n2_; have GW452 := n3_; have GE452 := n4_; have NB445_452 := n5_; have NB452_445 := n6_; clear n0_ n1_ n2_ n3_ n4_ n5_ n6_; clear hb hbox hg; have hnb12 := NB452_445.out; have hnc12 := NB445_452.out; have hcz13_0 : w11.cell? ⟨gb452, 0, none⟩ = some (.int .i64 0) := (blk_cell BK452.out 0).trans rfl; have hcz13_1 : w11.cell? ⟨gb452, 1, none⟩ = some (.int .i64 0) := (blk_cell BK452.out 1).trans rfl; have hcz13_2 : w11.cell? ⟨gb452, 2, none⟩ = some (.int .i64 0) := (blk_cell BK452.out 2).trans rfl; have hcz13_3 : w11.cell? ⟨gb452, 3, none⟩ = some (.int .i64 0) := (blk_cell BK452.out 3).trans rfl; have hcz13_4 : w11.cell? ⟨gb452, 4, none⟩ = some (.int .i64 0) := (blk_cell BK452.out 4).trans rfl; have hcz13_5 : w11.cell? ⟨gb452, 5, none⟩ = some (.int .i64 0) := (blk_cell BK452.out 5).trans rfl; have hfz13_0 := blk_frozen BK452.out 0; have hfz13_1 := blk_frozen BK452.out 1; have hfz13_2 := blk_frozen BK452.out 2; have hfz13_3 := blk_frozen BK452.out 3; have hfz13_4 := blk_frozen BK452.out 4; have hfz13_5 := blk_frozen BK452.out 5))
  go_loopg [12] k (fun kq v12 w' => ∃ (x12_1 : Int) (x446000_1 : Int) (x446001_1 : Int) (x446002_1 : Int) (x446003_1 : Int) (x446004_1 : Int) (x446005_1 : Int) (x453000_1 : Int) (x453001_1 : Int) (x453002_1 : Int) (x453003_1 : Int) (x453004_1 : Int) (x453005_1 : Int), v12 = .int .i64 x12_1 ∧ Aside0 (millwrightlaw09_LifeTells.l0 kq l2 a3 t438 x12_1 x446000_1 x446001_1 x446002_1 x446003_1 x446004_1 x446005_1 x453000_1 x453001_1 x453002_1 x453003_1 x453004_1 x453005_1 = some true) ∧ Aside0 (kq ≤ k) ∧ Aside0 (w'.heap[gb452]? = some (.cells #[.int .i64 x453000_1, .int .i64 x453001_1, .int .i64 x453002_1, .int .i64 x453003_1, .int .i64 x453004_1, .int .i64 x453005_1] 53 (0, 0))) ∧ Aside0 (IsS62 w w' g445 x446000_1 x446001_1 x446002_1 x446003_1 x446004_1 x446005_1) ∧ Aside0 (Below w.heap.size w w'))
  case atStart => exact ⟨(0), (t439), (t440), (t441), (t442), (t443), (t444), (t446), (t447), (t448), (t449), (t450), (t451), (by first | rfl | (simp; done) | (simp [*]; done)), H', ⟨Nat.le_refl _⟩, ⟨by (with_reducible repeat (first | refine blk_drewN ?_ _ | refine blk_drew ?_ | refine blk_alloc ?_ _)); refine blk_put (cs := #[.int .i64 t446, .int .i64 t447, .int .i64 t448, .int .i64 t449, .int .i64 t450, .int .i64 0]) ?_ 5 _ rfl; (with_reducible repeat (first | refine blk_drewN ?_ _ | refine blk_drew ?_ | refine blk_alloc ?_ _)); refine blk_put (cs := #[.int .i64 t446, .int .i64 t447, .int .i64 t448, .int .i64 t449, .int .i64 0, .int .i64 0]) ?_ 4 _ rfl; (with_reducible repeat (first | refine blk_drewN ?_ _ | refine blk_drew ?_ | refine blk_alloc ?_ _)); refine blk_put (cs := #[.int .i64 t446, .int .i64 t447, .int .i64 t448, .int .i64 0, .int .i64 0, .int .i64 0]) ?_ 3 _ rfl; (with_reducible repeat (first | refine blk_drewN ?_ _ | refine blk_drew ?_ | refine blk_alloc ?_ _)); refine blk_put (cs := #[.int .i64 t446, .int .i64 t447, .int .i64 0, .int .i64 0, .int .i64 0, .int .i64 0]) ?_ 2 _ rfl; (with_reducible repeat (first | refine blk_drewN ?_ _ | refine blk_drew ?_ | refine blk_alloc ?_ _)); refine blk_put (cs := #[.int .i64 t446, .int .i64 0, .int .i64 0, .int .i64 0, .int .i64 0, .int .i64 0]) ?_ 1 _ rfl; (with_reducible repeat (first | refine blk_drewN ?_ _ | refine blk_drew ?_ | refine blk_alloc ?_ _)); refine blk_put (cs := #[.int .i64 0, .int .i64 0, .int .i64 0, .int .i64 0, .int .i64 0, .int .i64 0]) ?_ 0 _ rfl; (with_reducible repeat (first | refine blk_drewN ?_ _ | refine blk_drew ?_ | refine blk_alloc ?_ _)); exact BK452.out⟩, ⟨by repeat (first | (with_reducible first | exact HI445.out | apply IsS62.alloc | apply IsS62.drewN | apply IsS62.drew | apply IsS62.set_0 | apply IsS62.set_1 | apply IsS62.set_2 | apply IsS62.set_3 | apply IsS62.set_4 | apply IsS62.set_5 | refine IsS62.far ?_ NB445_452.out _) | exact HI445.out)⟩, ⟨by repeat (first | (with_reducible first | exact HB.out | apply below_alloc | apply pw_below_drewN | apply below_drew1 | refine below_set ?_ (IsS62.ge HI445.out) | refine below_set ?_ GE452.out) | exact HB.out)⟩⟩
  case round =>
    clear H'
    try clear c1
    try clear c2
    try clear p2
    try clear c3
    try clear c11
    try clear c12
    try clear hcz13_0
    try clear hcz13_1
    try clear hcz13_2
    try clear hcz13_3
    try clear hcz13_4
    try clear hcz13_5
    try clear hfz13_0
    try clear hfz13_1
    try clear hfz13_2
    try clear hfz13_3
    try clear hfz13_4
    try clear hfz13_5
    obtain ⟨x12_1, x446000_1, x446001_1, x446002_1, x446003_1, x446004_1, x446005_1, x453000_1, x453001_1, x453002_1, x453003_1, x453004_1, x453005_1, rfl, HA, HK1, BK452, HI445, HB⟩ := hrel
    cases gk with
    | zero => exact absurd HA.out (by simp [millwrightlaw09_LifeTells.l0])
    | succ k1 =>
      have H := HA.out
      clear HA
      simp only [millwrightlaw09_LifeTells.l0] at H
      have HC14 := Aside0.mk H
      clear H
      go_upto_region 7 with (fail)
      go_cut [34] (fun v34 wc => ∃ (kq : Nat) (x34_13 : Bool), v34 = .bool x34_13 ∧ Aside0 (millwrightlaw09_LifeTells.j1 kq l2 a3 t438 x12_1 x34_13 x446000_1 x446001_1 x446002_1 x446003_1 x446004_1 x446005_1 x453000_1 x453001_1 x453002_1 x453003_1 x453004_1 x453005_1 = some true) ∧ Aside0 (kq ≤ k1) ∧ Aside0 (wc.heap[gb452]? = some (.cells #[.int .i64 x453000_1, .int .i64 x453001_1, .int .i64 x453002_1, .int .i64 x453003_1, .int .i64 x453004_1, .int .i64 x453005_1] 53 (0, 0))) ∧ Aside0 (IsS62 w wc g445 x446000_1 x446001_1 x446002_1 x446003_1 x446004_1 x446005_1) ∧ Aside0 (Below w.heap.size w wc))
      case first =>
        have H := HC14.out
        clear HC14
        by_cases c15 : x12_1 < (l2.length : Int)
        · rw [if_pos c15] at H
          have c15b0 : decide (x12_1 < (l2.length : Int)) = true := decide_eq_true c15
          clear c15
          (first | rw [c15b0] | (simp only [i64_w, i32_w]; rw [c15b0]) | skip)
          have H' := Aside0.mk H
          clear H
          go_wp2
          first | go_meet | (refine Met.intro ?_; go_step; (try rw [c15b0]); (repeat apply Exists.intro); refine ⟨?rel, rfl⟩)
          case rel => exact ⟨_, (decide (x12_1 < 300)), (by first | rfl | (simp; done) | (simp [*]; done)), H', ⟨by have := HK1.out; first | omega | exact Nat.le_refl _⟩, ⟨by (with_reducible repeat (first | refine blk_drewN ?_ _ | refine blk_drew ?_ | refine blk_alloc ?_ _)); exact BK452.out⟩, ⟨by repeat (first | (with_reducible first | exact HI445.out | apply IsS62.alloc | apply IsS62.drewN | apply IsS62.drew | apply IsS62.set_0 | apply IsS62.set_1 | apply IsS62.set_2 | apply IsS62.set_3 | apply IsS62.set_4 | apply IsS62.set_5 | refine IsS62.far ?_ NB445_452.out _) | exact HI445.out)⟩, ⟨by repeat (first | (with_reducible first | exact HB.out | apply below_alloc | apply pw_below_drewN | apply below_drew1 | refine below_set ?_ (IsS62.ge HI445.out) | refine below_set ?_ GE452.out) | exact HB.out)⟩⟩
        · rw [if_neg c15] at H
          have c15b0 : decide (x12_1 < (l2.length : Int)) = false := decide_eq_false c15
          clear c15
          (first | rw [c15b0] | (simp only [i64_w, i32_w]; rw [c15b0]) | skip)
          have H' := Aside0.mk H
          clear H
          go_wp2
          first | go_meet | (refine Met.intro ?_; go_step; (try rw [c15b0]); (repeat apply Exists.intro); refine ⟨?rel, rfl⟩)
          case rel => exact ⟨_, (false), (by first | rfl | (simp; done) | (simp [*]; done)), H', ⟨by have := HK1.out; first | omega | exact Nat.le_refl _⟩, ⟨by (with_reducible repeat (first | refine blk_drewN ?_ _ | refine blk_drew ?_ | refine blk_alloc ?_ _)); exact BK452.out⟩, ⟨by repeat (first | (with_reducible first | exact HI445.out | apply IsS62.alloc | apply IsS62.drewN | apply IsS62.drew | apply IsS62.set_0 | apply IsS62.set_1 | apply IsS62.set_2 | apply IsS62.set_3 | apply IsS62.set_4 | apply IsS62.set_5 | refine IsS62.far ?_ NB445_452.out _) | exact HI445.out)⟩, ⟨by repeat (first | (with_reducible first | exact HB.out | apply below_alloc | apply pw_below_drewN | apply below_drew1 | refine below_set ?_ (IsS62.ge HI445.out) | refine below_set ?_ GE452.out) | exact HB.out)⟩⟩
      case rest =>
        clear HC14
        try clear c1
        try clear c2
        try clear p2
        try clear c3
        try clear c11
        try clear c12
        try clear c15
        try clear c15b0
        try clear hcz13_0
        try clear hcz13_1
        try clear hcz13_2
        try clear hcz13_3
        try clear hcz13_4
        try clear hcz13_5
        try clear hfz13_0
        try clear hfz13_1
        try clear hfz13_2
        try clear hfz13_3
        try clear hfz13_4
        try clear hfz13_5
        try clear p2
        obtain ⟨kq, x34_13, rfl, HA, HJ13, BK452, HI445, HB⟩ := hcut
        cases kq with
        | zero => exact absurd HA.out (by simp [millwrightlaw09_LifeTells.j1])
        | succ kj13 =>
          have H := HA.out
          clear HA
          simp only [millwrightlaw09_LifeTells.j1] at H
          by_cases c16 : x34_13 = true
          · subst c16
            have H1 : (if 0 ≤ x12_1 then (if x12_1 < (l2.length : Int) then ((millwrightlaw09_does.f kj13 x446000_1 x446001_1 x446002_1 x446003_1 x446004_1 x446005_1 (wrap64 (Int.tmod (rd l2 x12_1) 11))).bind fun bt454 => ((millwrightref09_Do.f kj13 x453000_1 x453001_1 x453002_1 x453003_1 x453004_1 x453005_1 (wrap64 (Int.tmod (rd l2 x12_1) 11))).bind fun bt461 => (if bt461.2.2.1 = 2 then (millwrightlaw09_LifeTells.j2 kj13 l2 a3 t438 x12_1 bt454.1 bt461.2.2.2.2.2.2 7 (bt461.2.2.2.1 == a3) bt454.2.1 bt454.2.2.1 bt454.2.2.2.1 bt454.2.2.2.2.1 bt454.2.2.2.2.2.1 bt454.2.2.2.2.2.2 bt461.1 bt461.2.1 bt461.2.2.1 bt461.2.2.2.1 bt461.2.2.2.2.1 bt461.2.2.2.2.2.1) else (millwrightlaw09_LifeTells.j2 kj13 l2 a3 t438 x12_1 bt454.1 bt461.2.2.2.2.2.2 7 false bt454.2.1 bt454.2.2.1 bt454.2.2.2.1 bt454.2.2.2.2.1 bt454.2.2.2.2.2.1 bt454.2.2.2.2.2.2 bt461.1 bt461.2.1 bt461.2.2.1 bt461.2.2.2.1 bt461.2.2.2.2.1 bt461.2.2.2.2.2.1)))) else (none)) else (none)) = some true := by rw [if_pos rfl] at H; exact H
            clear H
            have H := H1
            clear H1
            by_cases c17 : 0 ≤ x12_1
            · rw [if_pos c17] at H
              have c17b0 : decide (0 ≤ x12_1) = true := decide_eq_true c17
              clear c17
              by_cases c18 : x12_1 < (l2.length : Int)
              · rw [if_pos c18] at H
                have c18b0 : decide (x12_1 < (l2.length : Int)) = true := decide_eq_true c18
                clear c18
                replace H := Option.bind_eq_some_iff.mp H
                obtain ⟨⟨t454, t455, t456, t457, t458, t459, t460⟩, A190, H⟩ := H
                replace H : ((millwrightref09_Do.f kj13 x453000_1 x453001_1 x453002_1 x453003_1 x453004_1 x453005_1 (wrap64 (Int.tmod (rd l2 x12_1) 11))).bind fun bt461 => (if bt461.2.2.1 = 2 then (millwrightlaw09_LifeTells.j2 kj13 l2 a3 t438 x12_1 t454 bt461.2.2.2.2.2.2 7 (bt461.2.2.2.1 == a3) t455 t456 t457 t458 t459 t460 bt461.1 bt461.2.1 bt461.2.2.1 bt461.2.2.2.1 bt461.2.2.2.2.1 bt461.2.2.2.2.2.1) else (millwrightlaw09_LifeTells.j2 kj13 l2 a3 t438 x12_1 t454 bt461.2.2.2.2.2.2 7 false t455 t456 t457 t458 t459 t460 bt461.1 bt461.2.1 bt461.2.2.1 bt461.2.2.2.1 bt461.2.2.2.2.1 bt461.2.2.2.2.2.1))) = some true := H
                have A19 := Aside0.mk A190
                clear A190
                replace H := Option.bind_eq_some_iff.mp H
                obtain ⟨⟨t461, t462, t463, t464, t465, t466, t467⟩, A200, H⟩ := H
                replace H : (if t463 = 2 then (millwrightlaw09_LifeTells.j2 kj13 l2 a3 t438 x12_1 t454 t467 7 (t464 == a3) t455 t456 t457 t458 t459 t460 t461 t462 t463 t464 t465 t466) else (millwrightlaw09_LifeTells.j2 kj13 l2 a3 t438 x12_1 t454 t467 7 false t455 t456 t457 t458 t459 t460 t461 t462 t463 t464 t465 t466)) = some true := H
                have A20 := Aside0.mk A200
                clear A200
                have HC21 := Aside0.mk H
                clear H
                have p453 : 0 ≤ (x12_1 : Int) := of_decide_eq_true (by first | (with_reducible assumption) | assumption)
                have q453 : x12_1 < (l2.length : Int) := of_decide_eq_true (by first | (with_reducible assumption) | assumption)
                obtain ⟨ad453, e453, hx453_0⟩ := Kd.at_int HR2.out x12_1 p453 q453
                cases e453
                replace hx453_0 := (HB.out.cell (World.block_lt_of_cell? w _ hx453_0)).trans hx453_0
                replace p453 := eq_true p453
                replace q453 := eq_true q453
                go_upto_region 14 with (first | ((with_reducible refine gate_callee (f := 40) rfl ?_); refine goesL_ (some 45) rfl rfl Try.func40 (by kernel_rfl) rfl #[.pointer (some ⟨g445, 0, none⟩), .int .i64 (wrap64 (Int.tmod (rd l2 x12_1) 11))] rfl (by (try simp only [List.map_toArray, List.map_cons, List.map_nil]); first | done | rfl | (simp only [List.length_drop, List.length_take]; rfl)) ?_; (with_reducible refine (millwrightlaw09_does.calls kj13 g445 x446000_1 x446001_1 x446002_1 x446003_1 x446004_1 x446005_1 (wrap64 (Int.tmod (rd l2 x12_1) 11)) t454 t455 t456 t457 t458 t459 t460 w _ ?side1 ?side2 A19.out).mono ?_); (case side1 => repeat (first | (with_reducible first | exact HI445.out | apply IsS62.alloc | apply IsS62.drewN | apply IsS62.drew | apply IsS62.set_0 | apply IsS62.set_1 | apply IsS62.set_2 | apply IsS62.set_3 | apply IsS62.set_4 | apply IsS62.set_5 | refine IsS62.far ?_ NB445_452.out _) | exact HI445.out)); (case side2 => repeat (first | (with_reducible first | exact HB.out | apply below_alloc | apply pw_below_drewN | apply below_drew1 | refine below_set ?_ (IsS62.ge HI445.out) | refine below_set ?_ GE452.out) | exact HB.out)); rintro e w22 ⟨rfl, hi, hb, hk⟩; refine ⟨_, rfl, ?_⟩; have n0_ := Aside0.mk (KeepBut.blk hk (g' := gb452) (o := .cells #[.int .i64 x453000_1, .int .i64 x453001_1, .int .i64 x453002_1, .int .i64 x453003_1, .int .i64 x453004_1, .int .i64 x453005_1] 53 (0, 0)) (by (with_reducible repeat (first | refine blk_drewN ?_ _ | refine blk_drew ?_ | refine blk_alloc ?_ _)); exact BK452.out) NB452_445.out (by simp)); have n1_ := Aside0.mk (hb); have n2_ := Aside0.mk (hi); clear BK452; clear HB; clear HI445; have BK452 := n0_; have HB := n1_; have HI445 := n2_; clear n0_ n1_ n2_; (try clear hb); (try clear hb2); (try clear hk); (try clear hi); have hnb23 := NB452_445.out; have hnc23 := NB445_452.out; have hcz24_0 : w22.cell? ⟨gb452, 0, none⟩ = some (.int .i64 x453000_1) := (blk_cell BK452.out 0).trans rfl; have hcz24_1 : w22.cell? ⟨gb452, 1, none⟩ = some (.int .i64 x453001_1) := (blk_cell BK452.out 1).trans rfl; have hcz24_2 : w22.cell? ⟨gb452, 2, none⟩ = some (.int .i64 x453002_1) := (blk_cell BK452.out 2).trans rfl; have hcz24_3 : w22.cell? ⟨gb452, 3, none⟩ = some (.int .i64 x453003_1) := (blk_cell BK452.out 3).trans rfl; have hcz24_4 : w22.cell? ⟨gb452, 4, none⟩ = some (.int .i64 x453004_1) := (blk_cell BK452.out 4).trans rfl; have hcz24_5 : w22.cell? ⟨gb452, 5, none⟩ = some (.int .i64 x453005_1) := (blk_cell BK452.out 5).trans rfl; have hfz24_0 := blk_frozen BK452.out 0; have hfz24_1 := blk_frozen BK452.out 1; have hfz24_2 := blk_frozen BK452.out 2; have hfz24_3 := blk_frozen BK452.out 3; have hfz24_4 := blk_frozen BK452.out 4; have hfz24_5 := blk_frozen BK452.out 5) | ((with_reducible refine gate_callee (f := 41) rfl ?_); refine goesL_ (some 49) rfl rfl Try.func41 (by kernel_rfl) rfl #[.agg #[.int .i64 x453000_1, .int .i64 x453001_1, .int .i64 x453002_1, .int .i64 x453003_1, .int .i64 x453004_1, .int .i64 x453005_1], .int .i64 (wrap64 (Int.tmod (rd l2 x12_1) 11))] rfl (by (try simp only [List.map_toArray, List.map_cons, List.map_nil]); first | done | rfl | (simp only [List.length_drop, List.length_take]; rfl)) ?_; (with_reducible refine (millwrightref09_Do.calls kj13 x453000_1 x453001_1 x453002_1 x453003_1 x453004_1 x453005_1 (wrap64 (Int.tmod (rd l2 x12_1) 11)) t461 t462 t463 t464 t465 t466 t467 _ A20.out).mono ?_); rintro e w25 ⟨rfl, hb⟩; refine ⟨_, rfl, ?_⟩; have n0_ := Aside0.mk (blk_below (g := gb452) (o := .cells #[.int .i64 x453000_1, .int .i64 x453001_1, .int .i64 x453002_1, .int .i64 x453003_1, .int .i64 x453004_1, .int .i64 x453005_1] 53 (0, 0)) (by (with_reducible repeat (first | refine blk_drewN ?_ _ | refine blk_drew ?_ | refine blk_alloc ?_ _)); exact BK452.out) hb); have n1_ := Aside0.mk (IsS62.below (by repeat (first | (with_reducible first | exact HI445.out | apply IsS62.alloc | apply IsS62.drewN | apply IsS62.drew | apply IsS62.set_0 | apply IsS62.set_1 | apply IsS62.set_2 | apply IsS62.set_3 | apply IsS62.set_4 | apply IsS62.set_5 | refine IsS62.far ?_ NB445_452.out _) | exact HI445.out)) hb); have n2_ := Aside0.mk (below_step (by repeat (first | (with_reducible first | exact HB.out | apply below_alloc | apply pw_below_drewN | apply below_drew1 | refine below_set ?_ (IsS62.ge HI445.out) | refine below_set ?_ GE452.out) | exact HB.out)) hb); clear BK452; clear HI445; clear HB; have BK452 := n0_; have HI445 := n1_; have HB := n2_; clear n0_ n1_ n2_; (try clear hb); (try clear hb2); (try clear hk); (try clear hi)) | ((with_reducible refine gate_dst (N := 15) rfl ?_); refine box_event ?hg (N := 15) ?hd (cs := #[.int .i64 0, .int .i64 0, .int .i64 0, .int .i64 0, .int .i64 0, .int .i64 0]) (t := 53) ?hr ?_; (case hd => rfl); (case hg => rfl); (case hr => first | (go_simp; done) | (go_simp; rfl)); intro gb468 hg w26 hbox hb; have n0_ := Aside0.mk (blk_below (g := gb452) (o := .cells #[.int .i64 x453000_1, .int .i64 x453001_1, .int .i64 x453002_1, .int .i64 x453003_1, .int .i64 x453004_1, .int .i64 x453005_1] 53 (0, 0)) (by (with_reducible repeat (first | refine blk_drewN ?_ _ | refine blk_drew ?_ | refine blk_alloc ?_ _)); exact BK452.out) hb); have n1_ := Aside0.mk (IsS62.below (by repeat (first | (with_reducible first | exact HI445.out | apply IsS62.alloc | apply IsS62.drewN | apply IsS62.drew | apply IsS62.set_0 | apply IsS62.set_1 | apply IsS62.set_2 | apply IsS62.set_3 | apply IsS62.set_4 | apply IsS62.set_5 | refine IsS62.far ?_ NB445_452.out _) | exact HI445.out)) hb); have n2_ := Aside0.mk (below_step (by repeat (first | (with_reducible first | exact HB.out | apply below_alloc | apply pw_below_drewN | apply below_drew1 | refine below_set ?_ (IsS62.ge HI445.out) | refine below_set ?_ GE452.out) | exact HB.out)) hb); have n3_ := Aside0.mk (hbox); have n4_ := Aside0.mk ((by rw [hg]; exact (below_size (by repeat (first | (with_reducible first | exact HB.out | apply below_alloc | apply pw_below_drewN | apply below_drew1 | refine below_set ?_ (IsS62.ge HI445.out) | refine below_set ?_ GE452.out) | exact HB.out))) : w.heap.size ≤ gb468)); have n5_ := Aside0.mk ((by rw [hg]; exact (below_size (by repeat (first | (with_reducible first | exact HB.out | apply below_alloc | apply pw_below_drewN | apply below_drew1 | refine below_set ?_ (IsS62.ge HI445.out) | refine below_set ?_ GE452.out) | exact HB.out))) : w.heap.size ≤ gb468)); have n6_ := Aside0.mk ((by rw [hg]; exact Nat.ne_of_lt (blk_lt (g := gb452) (o := .cells #[.int .i64 x453000_1, .int .i64 x453001_1, .int .i64 x453002_1, .int .i64 x453003_1, .int .i64 x453004_1, .int .i64 x453005_1] 53 (0, 0)) (by (with_reducible repeat (first | refine blk_drewN ?_ _ | refine blk_drew ?_ | refine blk_alloc ?_ _)); exact BK452.out)) : gb452 ≠ gb468)); have n7_ := Aside0.mk ((by rw [hg]; exact Nat.ne_of_gt (blk_lt (g := gb452) (o := .cells #[.int .i64 x453000_1, .int .i64 x453001_1, .int .i64 x453002_1, .int .i64 x453003_1, .int .i64 x453004_1, .int .i64 x453005_1] 53 (0, 0)) (by (with_reducible repeat (first | refine blk_drewN ?_ _ | refine blk_drew ?_ | refine blk_alloc ?_ _)); exact BK452.out)) : gb468 ≠ gb452)); have n8_ := Aside0.mk ((by rw [hg]; exact Nat.ne_of_lt (IsS62.lt (show IsS62 w _ g445 t455 t456 t457 t458 t459 t460 from by repeat (first | (with_reducible first | exact HI445.out | apply IsS62.alloc | apply IsS62.drewN | apply IsS62.drew | apply IsS62.set_0 | apply IsS62.set_1 | apply IsS62.set_2 | apply IsS62.set_3 | apply IsS62.set_4 | apply IsS62.set_5 | refine IsS62.far ?_ NB445_452.out _) | exact HI445.out))) : g445 ≠ gb468)); have n9_ := Aside0.mk ((by rw [hg]; exact Nat.ne_of_gt (IsS62.lt (show IsS62 w _ g445 t455 t456 t457 t458 t459 t460 from by repeat (first | (with_reducible first | exact HI445.out | apply IsS62.alloc | apply IsS62.drewN | apply IsS62.drew | apply IsS62.set_0 | apply IsS62.set_1 | apply IsS62.set_2 | apply IsS62.set_3 | apply IsS62.set_4 | apply IsS62.set_5 | refine IsS62.far ?_ NB445_452.out _) | exact HI445.out))) : gb468 ≠ g445)); clear BK452; clear HI445; clear HB; have BK452 := n0_; have HI445 := n1_; have HB := n2_; have BK468 := n3_; have GW468 := n4_; have GE468 := n5_; have NB452_468 := n6_; have NB468_452 := n7_; have NB445_468 := n8_; have NB468_445 := n9_; clear n0_ n1_ n2_ n3_ n4_ n5_ n6_ n7_ n8_ n9_; clear hb hbox hg; have hnb27 := NB468_452.out; have hnc27 := NB452_468.out; have hnb28 := NB468_445.out; have hnc28 := NB445_468.out; have hcz29_0 : w26.cell? ⟨gb468, 0, none⟩ = some (.int .i64 0) := (blk_cell BK468.out 0).trans rfl; have hcz29_1 : w26.cell? ⟨gb468, 1, none⟩ = some (.int .i64 0) := (blk_cell BK468.out 1).trans rfl; have hcz29_2 : w26.cell? ⟨gb468, 2, none⟩ = some (.int .i64 0) := (blk_cell BK468.out 2).trans rfl; have hcz29_3 : w26.cell? ⟨gb468, 3, none⟩ = some (.int .i64 0) := (blk_cell BK468.out 3).trans rfl; have hcz29_4 : w26.cell? ⟨gb468, 4, none⟩ = some (.int .i64 0) := (blk_cell BK468.out 4).trans rfl; have hcz29_5 : w26.cell? ⟨gb468, 5, none⟩ = some (.int .i64 0) := (blk_cell BK468.out 5).trans rfl; have hfz29_0 := blk_frozen BK468.out 0; have hfz29_1 := blk_frozen BK468.out 1; have hfz29_2 := blk_frozen BK468.out 2; have hfz29_3 := blk_frozen BK468.out 3; have hfz29_4 := blk_frozen BK468.out 4; have hfz29_5 := blk_frozen BK468.out 5; have hcz30_0 : w26.cell? ⟨gb452, 0, none⟩ = some (.int .i64 x453000_1) := (blk_cell BK452.out 0).trans rfl; have hcz30_1 : w26.cell? ⟨gb452, 1, none⟩ = some (.int .i64 x453001_1) := (blk_cell BK452.out 1).trans rfl; have hcz30_2 : w26.cell? ⟨gb452, 2, none⟩ = some (.int .i64 x453002_1) := (blk_cell BK452.out 2).trans rfl; have hcz30_3 : w26.cell? ⟨gb452, 3, none⟩ = some (.int .i64 x453003_1) := (blk_cell BK452.out 3).trans rfl; have hcz30_4 : w26.cell? ⟨gb452, 4, none⟩ = some (.int .i64 x453004_1) := (blk_cell BK452.out 4).trans rfl; have hcz30_5 : w26.cell? ⟨gb452, 5, none⟩ = some (.int .i64 x453005_1) := (blk_cell BK452.out 5).trans rfl; have hfz30_0 := blk_frozen BK452.out 0; have hfz30_1 := blk_frozen BK452.out 1; have hfz30_2 := blk_frozen BK452.out 2; have hfz30_3 := blk_frozen BK452.out 3; have hfz30_4 := blk_frozen BK452.out 4; have hfz30_5 := blk_frozen BK452.out 5))
                (try simp only [Act.put, List.setIfInBounds_toArray, List.set_cons_zero, List.set_cons_succ])
                go_cut [61] (fun v61 wc => ∃ (kq : Nat) (x61_20 : Bool), v61 = .bool x61_20 ∧ Aside0 (millwrightlaw09_LifeTells.j2 kq l2 a3 t438 x12_1 t454 t467 7 x61_20 t455 t456 t457 t458 t459 t460 t461 t462 t463 t464 t465 t466 = some true) ∧ Aside0 (kq ≤ kj13) ∧ Aside0 (wc.heap[gb452]? = some (.cells #[.int .i64 t461, .int .i64 t462, .int .i64 t463, .int .i64 t464, .int .i64 t465, .int .i64 t466] 53 (0, 0))) ∧ Aside0 (wc.heap[gb468]? = some (.cells #[.int .i64 t461, .int .i64 t462, .int .i64 t463, .int .i64 t464, .int .i64 t465, .int .i64 t466] 53 (0, 0))) ∧ Aside0 (IsS62 w wc g445 t455 t456 t457 t458 t459 t460) ∧ Aside0 (Below w.heap.size w wc))
                case first =>
                  have H := HC21.out
                  clear HC21
                  by_cases c31 : t463 = 2
                  · rw [if_pos c31] at H
                    have c31b0 : (t463 == 2) = true := beq_iff_eq.mpr c31
                    have c31b1 : (t463 != 2) = false := bne_eq_false_iff_eq.mpr c31
                    clear c31
                    (first | rw [c31b0] | (simp only [i64_w, i32_w]; rw [c31b0]) | skip)
                    have H' := Aside0.mk H
                    clear H
                    have hnb32 := NB452_468.out
                    have hnc32 := NB468_452.out
                    have hnb33 := NB452_445.out
                    have hnc33 := NB445_452.out
                    have hcz34_0 : w26.cell? ⟨gb452, 0, none⟩ = some (.int .i64 x453000_1) := (blk_cell BK452.out 0).trans rfl
                    have hcz34_1 : w26.cell? ⟨gb452, 1, none⟩ = some (.int .i64 x453001_1) := (blk_cell BK452.out 1).trans rfl
                    have hcz34_2 : w26.cell? ⟨gb452, 2, none⟩ = some (.int .i64 x453002_1) := (blk_cell BK452.out 2).trans rfl
                    have hcz34_3 : w26.cell? ⟨gb452, 3, none⟩ = some (.int .i64 x453003_1) := (blk_cell BK452.out 3).trans rfl
                    have hcz34_4 : w26.cell? ⟨gb452, 4, none⟩ = some (.int .i64 x453004_1) := (blk_cell BK452.out 4).trans rfl
                    have hcz34_5 : w26.cell? ⟨gb452, 5, none⟩ = some (.int .i64 x453005_1) := (blk_cell BK452.out 5).trans rfl
                    have hfz34_0 := blk_frozen BK452.out 0
                    have hfz34_1 := blk_frozen BK452.out 1
                    have hfz34_2 := blk_frozen BK452.out 2
                    have hfz34_3 := blk_frozen BK452.out 3
                    have hfz34_4 := blk_frozen BK452.out 4
                    have hfz34_5 := blk_frozen BK452.out 5
                    go_wp2
                    first | go_meet | (refine Met.intro ?_; go_step; (try rw [c17b0]); (try rw [c18b0]); (try rw [c31b0]); (repeat apply Exists.intro); refine ⟨?rel, rfl⟩)
                    case rel => exact ⟨_, ((t464 == a3)), (by first | rfl | (simp; done) | (simp [*]; done)), H', ⟨by have := HK1.out; have := HJ13.out; first | omega | exact Nat.le_refl _⟩, ⟨by (with_reducible repeat (first | refine blk_drewN ?_ _ | refine blk_drew ?_ | refine blk_alloc ?_ _)); refine blk_put (cs := #[.int .i64 t461, .int .i64 t462, .int .i64 t463, .int .i64 t464, .int .i64 t465, .int .i64 x453005_1]) ?_ 5 _ rfl; (with_reducible repeat (first | refine blk_drewN ?_ _ | refine blk_drew ?_ | refine blk_alloc ?_ _)); refine blk_put (cs := #[.int .i64 t461, .int .i64 t462, .int .i64 t463, .int .i64 t464, .int .i64 x453004_1, .int .i64 x453005_1]) ?_ 4 _ rfl; (with_reducible repeat (first | refine blk_drewN ?_ _ | refine blk_drew ?_ | refine blk_alloc ?_ _)); refine blk_put (cs := #[.int .i64 t461, .int .i64 t462, .int .i64 t463, .int .i64 x453003_1, .int .i64 x453004_1, .int .i64 x453005_1]) ?_ 3 _ rfl; (with_reducible repeat (first | refine blk_drewN ?_ _ | refine blk_drew ?_ | refine blk_alloc ?_ _)); refine blk_put (cs := #[.int .i64 t461, .int .i64 t462, .int .i64 x453002_1, .int .i64 x453003_1, .int .i64 x453004_1, .int .i64 x453005_1]) ?_ 2 _ rfl; (with_reducible repeat (first | refine blk_drewN ?_ _ | refine blk_drew ?_ | refine blk_alloc ?_ _)); refine blk_put (cs := #[.int .i64 t461, .int .i64 x453001_1, .int .i64 x453002_1, .int .i64 x453003_1, .int .i64 x453004_1, .int .i64 x453005_1]) ?_ 1 _ rfl; (with_reducible repeat (first | refine blk_drewN ?_ _ | refine blk_drew ?_ | refine blk_alloc ?_ _)); refine blk_put (cs := #[.int .i64 x453000_1, .int .i64 x453001_1, .int .i64 x453002_1, .int .i64 x453003_1, .int .i64 x453004_1, .int .i64 x453005_1]) ?_ 0 _ rfl; (with_reducible repeat (first | refine blk_drewN ?_ _ | refine blk_drew ?_ | refine blk_alloc ?_ _)); refine blk_far ?_ NB452_468.out _; (with_reducible repeat (first | refine blk_drewN ?_ _ | refine blk_drew ?_ | refine blk_alloc ?_ _)); refine blk_far ?_ NB452_468.out _; (with_reducible repeat (first | refine blk_drewN ?_ _ | refine blk_drew ?_ | refine blk_alloc ?_ _)); refine blk_far ?_ NB452_468.out _; (with_reducible repeat (first | refine blk_drewN ?_ _ | refine blk_drew ?_ | refine blk_alloc ?_ _)); refine blk_far ?_ NB452_468.out _; (with_reducible repeat (first | refine blk_drewN ?_ _ | refine blk_drew ?_ | refine blk_alloc ?_ _)); refine blk_far ?_ NB452_468.out _; (with_reducible repeat (first | refine blk_drewN ?_ _ | refine blk_drew ?_ | refine blk_alloc ?_ _)); refine blk_far ?_ NB452_468.out _; (with_reducible repeat (first | refine blk_drewN ?_ _ | refine blk_drew ?_ | refine blk_alloc ?_ _)); exact BK452.out⟩, ⟨by (with_reducible repeat (first | refine blk_drewN ?_ _ | refine blk_drew ?_ | refine blk_alloc ?_ _)); refine blk_far ?_ NB468_452.out _; (with_reducible repeat (first | refine blk_drewN ?_ _ | refine blk_drew ?_ | refine blk_alloc ?_ _)); refine blk_far ?_ NB468_452.out _; (with_reducible repeat (first | refine blk_drewN ?_ _ | refine blk_drew ?_ | refine blk_alloc ?_ _)); refine blk_far ?_ NB468_452.out _; (with_reducible repeat (first | refine blk_drewN ?_ _ | refine blk_drew ?_ | refine blk_alloc ?_ _)); refine blk_far ?_ NB468_452.out _; (with_reducible repeat (first | refine blk_drewN ?_ _ | refine blk_drew ?_ | refine blk_alloc ?_ _)); refine blk_far ?_ NB468_452.out _; (with_reducible repeat (first | refine blk_drewN ?_ _ | refine blk_drew ?_ | refine blk_alloc ?_ _)); refine blk_far ?_ NB468_452.out _; (with_reducible repeat (first | refine blk_drewN ?_ _ | refine blk_drew ?_ | refine blk_alloc ?_ _)); refine blk_put (cs := #[.int .i64 t461, .int .i64 t462, .int .i64 t463, .int .i64 t464, .int .i64 t465, .int .i64 0]) ?_ 5 _ rfl; (with_reducible repeat (first | refine blk_drewN ?_ _ | refine blk_drew ?_ | refine blk_alloc ?_ _)); refine blk_put (cs := #[.int .i64 t461, .int .i64 t462, .int .i64 t463, .int .i64 t464, .int .i64 0, .int .i64 0]) ?_ 4 _ rfl; (with_reducible repeat (first | refine blk_drewN ?_ _ | refine blk_drew ?_ | refine blk_alloc ?_ _)); refine blk_put (cs := #[.int .i64 t461, .int .i64 t462, .int .i64 t463, .int .i64 0, .int .i64 0, .int .i64 0]) ?_ 3 _ rfl; (with_reducible repeat (first | refine blk_drewN ?_ _ | refine blk_drew ?_ | refine blk_alloc ?_ _)); refine blk_put (cs := #[.int .i64 t461, .int .i64 t462, .int .i64 0, .int .i64 0, .int .i64 0, .int .i64 0]) ?_ 2 _ rfl; (with_reducible repeat (first | refine blk_drewN ?_ _ | refine blk_drew ?_ | refine blk_alloc ?_ _)); refine blk_put (cs := #[.int .i64 t461, .int .i64 0, .int .i64 0, .int .i64 0, .int .i64 0, .int .i64 0]) ?_ 1 _ rfl; (with_reducible repeat (first | refine blk_drewN ?_ _ | refine blk_drew ?_ | refine blk_alloc ?_ _)); refine blk_put (cs := #[.int .i64 0, .int .i64 0, .int .i64 0, .int .i64 0, .int .i64 0, .int .i64 0]) ?_ 0 _ rfl; (with_reducible repeat (first | refine blk_drewN ?_ _ | refine blk_drew ?_ | refine blk_alloc ?_ _)); exact BK468.out⟩, ⟨by repeat (first | (with_reducible first | exact HI445.out | apply IsS62.alloc | apply IsS62.drewN | apply IsS62.drew | apply IsS62.set_0 | apply IsS62.set_1 | apply IsS62.set_2 | apply IsS62.set_3 | apply IsS62.set_4 | apply IsS62.set_5 | refine IsS62.far ?_ NB445_452.out _ | refine IsS62.far ?_ NB445_468.out _) | exact HI445.out)⟩, ⟨by repeat (first | (with_reducible first | exact HB.out | apply below_alloc | apply pw_below_drewN | apply below_drew1 | refine below_set ?_ (IsS62.ge HI445.out) | refine below_set ?_ GE452.out | refine below_set ?_ GE468.out) | exact HB.out)⟩⟩
                  · rw [if_neg c31] at H
                    have c31b0 : (t463 == 2) = false := beq_eq_false_iff_ne.mpr c31
                    have c31b1 : (t463 != 2) = true := bne_iff_ne.mpr c31
                    (first | rw [c31b0] | (simp only [i64_w, i32_w]; rw [c31b0]) | skip)
                    have H' := Aside0.mk H
                    clear H
                    have hnb35 := NB452_468.out
                    have hnc35 := NB468_452.out
                    have hnb36 := NB452_445.out
                    have hnc36 := NB445_452.out
                    have hcz37_0 : w26.cell? ⟨gb452, 0, none⟩ = some (.int .i64 x453000_1) := (blk_cell BK452.out 0).trans rfl
                    have hcz37_1 : w26.cell? ⟨gb452, 1, none⟩ = some (.int .i64 x453001_1) := (blk_cell BK452.out 1).trans rfl
                    have hcz37_2 : w26.cell? ⟨gb452, 2, none⟩ = some (.int .i64 x453002_1) := (blk_cell BK452.out 2).trans rfl
                    have hcz37_3 : w26.cell? ⟨gb452, 3, none⟩ = some (.int .i64 x453003_1) := (blk_cell BK452.out 3).trans rfl
                    have hcz37_4 : w26.cell? ⟨gb452, 4, none⟩ = some (.int .i64 x453004_1) := (blk_cell BK452.out 4).trans rfl
                    have hcz37_5 : w26.cell? ⟨gb452, 5, none⟩ = some (.int .i64 x453005_1) := (blk_cell BK452.out 5).trans rfl
                    have hfz37_0 := blk_frozen BK452.out 0
                    have hfz37_1 := blk_frozen BK452.out 1
                    have hfz37_2 := blk_frozen BK452.out 2
                    have hfz37_3 := blk_frozen BK452.out 3
                    have hfz37_4 := blk_frozen BK452.out 4
                    have hfz37_5 := blk_frozen BK452.out 5
                    go_wp2
                    first | go_meet | (refine Met.intro ?_; go_step; (try rw [c17b0]); (try rw [c18b0]); (try rw [c31b0]); (repeat apply Exists.intro); refine ⟨?rel, rfl⟩)
                    case rel => exact ⟨_, (false), (by first | rfl | (simp; done) | (simp [*]; done)), H', ⟨by have := HK1.out; have := HJ13.out; first | omega | exact Nat.le_refl _⟩, ⟨by (with_reducible repeat (first | refine blk_drewN ?_ _ | refine blk_drew ?_ | refine blk_alloc ?_ _)); refine blk_put (cs := #[.int .i64 t461, .int .i64 t462, .int .i64 t463, .int .i64 t464, .int .i64 t465, .int .i64 x453005_1]) ?_ 5 _ rfl; (with_reducible repeat (first | refine blk_drewN ?_ _ | refine blk_drew ?_ | refine blk_alloc ?_ _)); refine blk_put (cs := #[.int .i64 t461, .int .i64 t462, .int .i64 t463, .int .i64 t464, .int .i64 x453004_1, .int .i64 x453005_1]) ?_ 4 _ rfl; (with_reducible repeat (first | refine blk_drewN ?_ _ | refine blk_drew ?_ | refine blk_alloc ?_ _)); refine blk_put (cs := #[.int .i64 t461, .int .i64 t462, .int .i64 t463, .int .i64 x453003_1, .int .i64 x453004_1, .int .i64 x453005_1]) ?_ 3 _ rfl; (with_reducible repeat (first | refine blk_drewN ?_ _ | refine blk_drew ?_ | refine blk_alloc ?_ _)); refine blk_put (cs := #[.int .i64 t461, .int .i64 t462, .int .i64 x453002_1, .int .i64 x453003_1, .int .i64 x453004_1, .int .i64 x453005_1]) ?_ 2 _ rfl; (with_reducible repeat (first | refine blk_drewN ?_ _ | refine blk_drew ?_ | refine blk_alloc ?_ _)); refine blk_put (cs := #[.int .i64 t461, .int .i64 x453001_1, .int .i64 x453002_1, .int .i64 x453003_1, .int .i64 x453004_1, .int .i64 x453005_1]) ?_ 1 _ rfl; (with_reducible repeat (first | refine blk_drewN ?_ _ | refine blk_drew ?_ | refine blk_alloc ?_ _)); refine blk_put (cs := #[.int .i64 x453000_1, .int .i64 x453001_1, .int .i64 x453002_1, .int .i64 x453003_1, .int .i64 x453004_1, .int .i64 x453005_1]) ?_ 0 _ rfl; (with_reducible repeat (first | refine blk_drewN ?_ _ | refine blk_drew ?_ | refine blk_alloc ?_ _)); refine blk_far ?_ NB452_468.out _; (with_reducible repeat (first | refine blk_drewN ?_ _ | refine blk_drew ?_ | refine blk_alloc ?_ _)); refine blk_far ?_ NB452_468.out _; (with_reducible repeat (first | refine blk_drewN ?_ _ | refine blk_drew ?_ | refine blk_alloc ?_ _)); refine blk_far ?_ NB452_468.out _; (with_reducible repeat (first | refine blk_drewN ?_ _ | refine blk_drew ?_ | refine blk_alloc ?_ _)); refine blk_far ?_ NB452_468.out _; (with_reducible repeat (first | refine blk_drewN ?_ _ | refine blk_drew ?_ | refine blk_alloc ?_ _)); refine blk_far ?_ NB452_468.out _; (with_reducible repeat (first | refine blk_drewN ?_ _ | refine blk_drew ?_ | refine blk_alloc ?_ _)); refine blk_far ?_ NB452_468.out _; (with_reducible repeat (first | refine blk_drewN ?_ _ | refine blk_drew ?_ | refine blk_alloc ?_ _)); exact BK452.out⟩, ⟨by (with_reducible repeat (first | refine blk_drewN ?_ _ | refine blk_drew ?_ | refine blk_alloc ?_ _)); refine blk_far ?_ NB468_452.out _; (with_reducible repeat (first | refine blk_drewN ?_ _ | refine blk_drew ?_ | refine blk_alloc ?_ _)); refine blk_far ?_ NB468_452.out _; (with_reducible repeat (first | refine blk_drewN ?_ _ | refine blk_drew ?_ | refine blk_alloc ?_ _)); refine blk_far ?_ NB468_452.out _; (with_reducible repeat (first | refine blk_drewN ?_ _ | refine blk_drew ?_ | refine blk_alloc ?_ _)); refine blk_far ?_ NB468_452.out _; (with_reducible repeat (first | refine blk_drewN ?_ _ | refine blk_drew ?_ | refine blk_alloc ?_ _)); refine blk_far ?_ NB468_452.out _; (with_reducible repeat (first | refine blk_drewN ?_ _ | refine blk_drew ?_ | refine blk_alloc ?_ _)); refine blk_far ?_ NB468_452.out _; (with_reducible repeat (first | refine blk_drewN ?_ _ | refine blk_drew ?_ | refine blk_alloc ?_ _)); refine blk_put (cs := #[.int .i64 t461, .int .i64 t462, .int .i64 t463, .int .i64 t464, .int .i64 t465, .int .i64 0]) ?_ 5 _ rfl; (with_reducible repeat (first | refine blk_drewN ?_ _ | refine blk_drew ?_ | refine blk_alloc ?_ _)); refine blk_put (cs := #[.int .i64 t461, .int .i64 t462, .int .i64 t463, .int .i64 t464, .int .i64 0, .int .i64 0]) ?_ 4 _ rfl; (with_reducible repeat (first | refine blk_drewN ?_ _ | refine blk_drew ?_ | refine blk_alloc ?_ _)); refine blk_put (cs := #[.int .i64 t461, .int .i64 t462, .int .i64 t463, .int .i64 0, .int .i64 0, .int .i64 0]) ?_ 3 _ rfl; (with_reducible repeat (first | refine blk_drewN ?_ _ | refine blk_drew ?_ | refine blk_alloc ?_ _)); refine blk_put (cs := #[.int .i64 t461, .int .i64 t462, .int .i64 0, .int .i64 0, .int .i64 0, .int .i64 0]) ?_ 2 _ rfl; (with_reducible repeat (first | refine blk_drewN ?_ _ | refine blk_drew ?_ | refine blk_alloc ?_ _)); refine blk_put (cs := #[.int .i64 t461, .int .i64 0, .int .i64 0, .int .i64 0, .int .i64 0, .int .i64 0]) ?_ 1 _ rfl; (with_reducible repeat (first | refine blk_drewN ?_ _ | refine blk_drew ?_ | refine blk_alloc ?_ _)); refine blk_put (cs := #[.int .i64 0, .int .i64 0, .int .i64 0, .int .i64 0, .int .i64 0, .int .i64 0]) ?_ 0 _ rfl; (with_reducible repeat (first | refine blk_drewN ?_ _ | refine blk_drew ?_ | refine blk_alloc ?_ _)); exact BK468.out⟩, ⟨by repeat (first | (with_reducible first | exact HI445.out | apply IsS62.alloc | apply IsS62.drewN | apply IsS62.drew | apply IsS62.set_0 | apply IsS62.set_1 | apply IsS62.set_2 | apply IsS62.set_3 | apply IsS62.set_4 | apply IsS62.set_5 | refine IsS62.far ?_ NB445_452.out _ | refine IsS62.far ?_ NB445_468.out _) | exact HI445.out)⟩, ⟨by repeat (first | (with_reducible first | exact HB.out | apply below_alloc | apply pw_below_drewN | apply below_drew1 | refine below_set ?_ (IsS62.ge HI445.out) | refine below_set ?_ GE452.out | refine below_set ?_ GE468.out) | exact HB.out)⟩⟩
                case rest =>
                  clear HC21
                  try clear c1
                  try clear c2
                  try clear p2
                  try clear c3
                  try clear c4
                  try clear p4
                  try clear q4
                  try clear hx4
                  try clear p6
                  try clear c11
                  try clear c12
                  try clear c15
                  try clear c15b0
                  try clear c16
                  try clear c17
                  try clear c17b0
                  try clear c18
                  try clear c18b0
                  try clear c23
                  try clear c27
                  try clear c28
                  try clear c31
                  try clear c31b0
                  try clear c31b1
                  try clear c32
                  try clear c33
                  try clear c35
                  try clear c36
                  try clear hcz13_0
                  try clear hcz13_1
                  try clear hcz13_2
                  try clear hcz13_3
                  try clear hcz13_4
                  try clear hcz13_5
                  try clear hcz24_0
                  try clear hcz24_1
                  try clear hcz24_2
                  try clear hcz24_3
                  try clear hcz24_4
                  try clear hcz24_5
                  try clear hcz29_0
                  try clear hcz29_1
                  try clear hcz29_2
                  try clear hcz29_3
                  try clear hcz29_4
                  try clear hcz29_5
                  try clear hcz30_0
                  try clear hcz30_1
                  try clear hcz30_2
                  try clear hcz30_3
                  try clear hcz30_4
                  try clear hcz30_5
                  try clear hcz34_0
                  try clear hcz34_1
                  try clear hcz34_2
                  try clear hcz34_3
                  try clear hcz34_4
                  try clear hcz34_5
                  try clear hcz37_0
                  try clear hcz37_1
                  try clear hcz37_2
                  try clear hcz37_3
                  try clear hcz37_4
                  try clear hcz37_5
                  try clear hfz13_0
                  try clear hfz13_1
                  try clear hfz13_2
                  try clear hfz13_3
                  try clear hfz13_4
                  try clear hfz13_5
                  try clear hfz24_0
                  try clear hfz24_1
                  try clear hfz24_2
                  try clear hfz24_3
                  try clear hfz24_4
                  try clear hfz24_5
                  try clear hfz29_0
                  try clear hfz29_1
                  try clear hfz29_2
                  try clear hfz29_3
                  try clear hfz29_4
                  try clear hfz29_5
                  try clear hfz30_0
                  try clear hfz30_1
                  try clear hfz30_2
                  try clear hfz30_3
                  try clear hfz30_4
                  try clear hfz30_5
                  try clear hfz34_0
                  try clear hfz34_1
                  try clear hfz34_2
                  try clear hfz34_3
                  try clear hfz34_4
                  try clear hfz34_5
                  try clear hfz37_0
                  try clear hfz37_1
                  try clear hfz37_2
                  try clear hfz37_3
                  try clear hfz37_4
                  try clear hfz37_5
                  try clear hx453_0
                  try clear p2
                  try clear p453
                  try clear q453
                  obtain ⟨kq, x61_20, rfl, HA, HJ20, BK452, BK468, HI445, HB⟩ := hcut
                  cases kq with
                  | zero => exact absurd HA.out (by simp [millwrightlaw09_LifeTells.j2])
                  | succ kj20 =>
                    have H := HA.out
                    clear HA
                    simp only [millwrightlaw09_LifeTells.j2] at H
                    have HC38 := Aside0.mk H
                    clear H
                    go_upto_if 61 with (fail)
                    go_cut [17] (fun v17 wc => ∃ (kq : Nat) (x17_37 : Int), v17 = .int .i64 x17_37 ∧ Aside0 (millwrightlaw09_LifeTells.j3 kq l2 a3 t438 x12_1 t454 t467 x17_37 t455 t456 t457 t458 t459 t460 t461 t462 t463 t464 t465 t466 = some true) ∧ Aside0 (kq ≤ kj20) ∧ Aside0 (wc.heap[gb452]? = some (.cells #[.int .i64 t461, .int .i64 t462, .int .i64 t463, .int .i64 t464, .int .i64 t465, .int .i64 t466] 53 (0, 0))) ∧ Aside0 (wc.heap[gb468]? = some (.cells #[.int .i64 t461, .int .i64 t462, .int .i64 t463, .int .i64 t464, .int .i64 t465, .int .i64 t466] 53 (0, 0))) ∧ Aside0 (IsS62 w wc g445 t455 t456 t457 t458 t459 t460) ∧ Aside0 (Below w.heap.size w wc))
                    case first =>
                      have H := HC38.out
                      clear HC38
                      by_cases c39 : x61_20 = true
                      · subst c39
                        have H1 : (millwrightlaw09_LifeTells.j3 kj20 l2 a3 t438 x12_1 t454 t467 0 t455 t456 t457 t458 t459 t460 t461 t462 t463 t464 t465 t466) = some true := by rw [if_pos rfl] at H; exact H
                        clear H
                        have H := H1
                        clear H1
                        have H' := Aside0.mk H
                        clear H
                        go_wp2
                        first | go_meet | (refine Met.intro ?_; go_step; (try rw [c17b0]); (try rw [c18b0]); (repeat apply Exists.intro); refine ⟨?rel, rfl⟩)
                        case rel => exact ⟨_, (0), (by first | rfl | (simp; done) | (simp [*]; done)), H', ⟨by have := HK1.out; have := HJ13.out; have := HJ20.out; first | omega | exact Nat.le_refl _⟩, ⟨by (with_reducible repeat (first | refine blk_drewN ?_ _ | refine blk_drew ?_ | refine blk_alloc ?_ _)); exact BK452.out⟩, ⟨by (with_reducible repeat (first | refine blk_drewN ?_ _ | refine blk_drew ?_ | refine blk_alloc ?_ _)); exact BK468.out⟩, ⟨by repeat (first | (with_reducible first | exact HI445.out | apply IsS62.alloc | apply IsS62.drewN | apply IsS62.drew | apply IsS62.set_0 | apply IsS62.set_1 | apply IsS62.set_2 | apply IsS62.set_3 | apply IsS62.set_4 | apply IsS62.set_5 | refine IsS62.far ?_ NB445_452.out _ | refine IsS62.far ?_ NB445_468.out _) | exact HI445.out)⟩, ⟨by repeat (first | (with_reducible first | exact HB.out | apply below_alloc | apply pw_below_drewN | apply below_drew1 | refine below_set ?_ (IsS62.ge HI445.out) | refine below_set ?_ GE452.out | refine below_set ?_ GE468.out) | exact HB.out)⟩⟩
                      · replace c39 := Bool.eq_false_iff.mpr c39
                        subst c39
                        have H1 : (millwrightlaw09_LifeTells.j3 kj20 l2 a3 t438 x12_1 t454 t467 7 t455 t456 t457 t458 t459 t460 t461 t462 t463 t464 t465 t466) = some true := by rw [if_neg (show ¬ (false = true) by decide)] at H; exact H
                        clear H
                        have H := H1
                        clear H1
                        have H' := Aside0.mk H
                        clear H
                        go_wp2
                        first | go_meet | (refine Met.intro ?_; go_step; (try rw [c17b0]); (try rw [c18b0]); (repeat apply Exists.intro); refine ⟨?rel, rfl⟩)
                        case rel => exact ⟨_, (7), (by first | rfl | (simp; done) | (simp [*]; done)), H', ⟨by have := HK1.out; have := HJ13.out; have := HJ20.out; first | omega | exact Nat.le_refl _⟩, ⟨by (with_reducible repeat (first | refine blk_drewN ?_ _ | refine blk_drew ?_ | refine blk_alloc ?_ _)); exact BK452.out⟩, ⟨by (with_reducible repeat (first | refine blk_drewN ?_ _ | refine blk_drew ?_ | refine blk_alloc ?_ _)); exact BK468.out⟩, ⟨by repeat (first | (with_reducible first | exact HI445.out | apply IsS62.alloc | apply IsS62.drewN | apply IsS62.drew | apply IsS62.set_0 | apply IsS62.set_1 | apply IsS62.set_2 | apply IsS62.set_3 | apply IsS62.set_4 | apply IsS62.set_5 | refine IsS62.far ?_ NB445_452.out _ | refine IsS62.far ?_ NB445_468.out _) | exact HI445.out)⟩, ⟨by repeat (first | (with_reducible first | exact HB.out | apply below_alloc | apply pw_below_drewN | apply below_drew1 | refine below_set ?_ (IsS62.ge HI445.out) | refine below_set ?_ GE452.out | refine below_set ?_ GE468.out) | exact HB.out)⟩⟩
                    case rest =>
                      clear HC38
                      try clear c1
                      try clear c2
                      try clear p2
                      try clear c3
                      try clear c4
                      try clear p4
                      try clear q4
                      try clear hx4
                      try clear p6
                      try clear c11
                      try clear c12
                      try clear c15
                      try clear c15b0
                      try clear c16
                      try clear c17
                      try clear c17b0
                      try clear c18
                      try clear c18b0
                      try clear c23
                      try clear c27
                      try clear c28
                      try clear c31
                      try clear c31b0
                      try clear c31b1
                      try clear c32
                      try clear c33
                      try clear c35
                      try clear c36
                      try clear c39
                      try clear hcz13_0
                      try clear hcz13_1
                      try clear hcz13_2
                      try clear hcz13_3
                      try clear hcz13_4
                      try clear hcz13_5
                      try clear hcz24_0
                      try clear hcz24_1
                      try clear hcz24_2
                      try clear hcz24_3
                      try clear hcz24_4
                      try clear hcz24_5
                      try clear hcz29_0
                      try clear hcz29_1
                      try clear hcz29_2
                      try clear hcz29_3
                      try clear hcz29_4
                      try clear hcz29_5
                      try clear hcz30_0
                      try clear hcz30_1
                      try clear hcz30_2
                      try clear hcz30_3
                      try clear hcz30_4
                      try clear hcz30_5
                      try clear hcz34_0
                      try clear hcz34_1
                      try clear hcz34_2
                      try clear hcz34_3
                      try clear hcz34_4
                      try clear hcz34_5
                      try clear hcz37_0
                      try clear hcz37_1
                      try clear hcz37_2
                      try clear hcz37_3
                      try clear hcz37_4
                      try clear hcz37_5
                      try clear hfz13_0
                      try clear hfz13_1
                      try clear hfz13_2
                      try clear hfz13_3
                      try clear hfz13_4
                      try clear hfz13_5
                      try clear hfz24_0
                      try clear hfz24_1
                      try clear hfz24_2
                      try clear hfz24_3
                      try clear hfz24_4
                      try clear hfz24_5
                      try clear hfz29_0
                      try clear hfz29_1
                      try clear hfz29_2
                      try clear hfz29_3
                      try clear hfz29_4
                      try clear hfz29_5
                      try clear hfz30_0
                      try clear hfz30_1
                      try clear hfz30_2
                      try clear hfz30_3
                      try clear hfz30_4
                      try clear hfz30_5
                      try clear hfz34_0
                      try clear hfz34_1
                      try clear hfz34_2
                      try clear hfz34_3
                      try clear hfz34_4
                      try clear hfz34_5
                      try clear hfz37_0
                      try clear hfz37_1
                      try clear hfz37_2
                      try clear hfz37_3
                      try clear hfz37_4
                      try clear hfz37_5
                      try clear hx453_0
                      try clear p2
                      try clear p4
                      try clear p453
                      try clear p6
                      try clear q4
                      try clear q453
                      obtain ⟨kq, x17_37, rfl, HA, HJ37, BK452, BK468, HI445, HB⟩ := hcut
                      cases kq with
                      | zero => exact absurd HA.out (by simp [millwrightlaw09_LifeTells.j3])
                      | succ kj37 =>
                        have H := HA.out
                        clear HA
                        simp only [millwrightlaw09_LifeTells.j3] at H
                        by_cases c40 : t454 = t467
                        · rw [if_pos c40] at H
                          have c40b0 : (t454 == t467) = true := beq_iff_eq.mpr c40
                          have c40b1 : (t454 != t467) = false := bne_eq_false_iff_eq.mpr c40
                          clear c40
                          replace H := Option.bind_eq_some_iff.mp H
                          obtain ⟨⟨t469, t470, t471, t472, t473, t474, t475⟩, A410, H⟩ := H
                          replace H : (if t469 = t463 then ((life_Life_Epoch.f t470 t471 t472 t473 t474 t475).bind fun bt476 => (if bt476.1 = t464 then ((life_Life_Missed.f bt476.2.1 bt476.2.2.1 bt476.2.2.2.1 bt476.2.2.2.2.1 bt476.2.2.2.2.2.1 bt476.2.2.2.2.2.2).bind fun bt483 => (if bt483.1 = t465 then ((life_Life_Stopped.f bt483.2.1 bt483.2.2.1 bt483.2.2.2.1 bt483.2.2.2.2.1 bt483.2.2.2.2.2.1 bt483.2.2.2.2.2.2).bind fun bt490 => (if bt490.1 = t466 then ((life_Life_Final.f bt490.2.1 bt490.2.2.1 bt490.2.2.2.1 bt490.2.2.2.2.1 bt490.2.2.2.2.2.1 bt490.2.2.2.2.2.2).bind fun bt497 => (if bt497.1 = true then (if t463 ≥ 5 then ((life_Life_Right.f bt497.2.1 bt497.2.2.1 bt497.2.2.2.1 bt497.2.2.2.2.1 bt497.2.2.2.2.2.1 bt497.2.2.2.2.2.2 a3).bind fun bt504 => (if bt504.1 = x17_37 then (millwrightlaw09_LifeTells.l0 kj37 l2 a3 t438 (wrap64 (x12_1 + 1)) bt504.2.1 bt504.2.2.1 bt504.2.2.2.1 bt504.2.2.2.2.1 bt504.2.2.2.2.2.1 bt504.2.2.2.2.2.2 t461 t462 t463 t464 t465 t466) else (some false))) else (some false)) else (if t463 ≥ 5 then (some false) else ((life_Life_Right.f bt497.2.1 bt497.2.2.1 bt497.2.2.2.1 bt497.2.2.2.2.1 bt497.2.2.2.2.2.1 bt497.2.2.2.2.2.2 a3).bind fun bt511 => (if bt511.1 = x17_37 then (millwrightlaw09_LifeTells.l0 kj37 l2 a3 t438 (wrap64 (x12_1 + 1)) bt511.2.1 bt511.2.2.1 bt511.2.2.2.1 bt511.2.2.2.2.1 bt511.2.2.2.2.2.1 bt511.2.2.2.2.2.2 t461 t462 t463 t464 t465 t466) else (some false)))))) else (some false))) else (some false))) else (some false))) else (some false)) = some true := H
                          have A41 := Aside0.mk A410
                          clear A410
                          by_cases c42 : t469 = t463
                          · rw [if_pos c42] at H
                            have c42b0 : (t469 == t463) = true := beq_iff_eq.mpr c42
                            have c42b1 : (t469 != t463) = false := bne_eq_false_iff_eq.mpr c42
                            clear c42
                            replace H := Option.bind_eq_some_iff.mp H
                            obtain ⟨⟨t476, t477, t478, t479, t480, t481, t482⟩, A430, H⟩ := H
                            replace H : (if t476 = t464 then ((life_Life_Missed.f t477 t478 t479 t480 t481 t482).bind fun bt483 => (if bt483.1 = t465 then ((life_Life_Stopped.f bt483.2.1 bt483.2.2.1 bt483.2.2.2.1 bt483.2.2.2.2.1 bt483.2.2.2.2.2.1 bt483.2.2.2.2.2.2).bind fun bt490 => (if bt490.1 = t466 then ((life_Life_Final.f bt490.2.1 bt490.2.2.1 bt490.2.2.2.1 bt490.2.2.2.2.1 bt490.2.2.2.2.2.1 bt490.2.2.2.2.2.2).bind fun bt497 => (if bt497.1 = true then (if t463 ≥ 5 then ((life_Life_Right.f bt497.2.1 bt497.2.2.1 bt497.2.2.2.1 bt497.2.2.2.2.1 bt497.2.2.2.2.2.1 bt497.2.2.2.2.2.2 a3).bind fun bt504 => (if bt504.1 = x17_37 then (millwrightlaw09_LifeTells.l0 kj37 l2 a3 t438 (wrap64 (x12_1 + 1)) bt504.2.1 bt504.2.2.1 bt504.2.2.2.1 bt504.2.2.2.2.1 bt504.2.2.2.2.2.1 bt504.2.2.2.2.2.2 t461 t462 t463 t464 t465 t466) else (some false))) else (some false)) else (if t463 ≥ 5 then (some false) else ((life_Life_Right.f bt497.2.1 bt497.2.2.1 bt497.2.2.2.1 bt497.2.2.2.2.1 bt497.2.2.2.2.2.1 bt497.2.2.2.2.2.2 a3).bind fun bt511 => (if bt511.1 = x17_37 then (millwrightlaw09_LifeTells.l0 kj37 l2 a3 t438 (wrap64 (x12_1 + 1)) bt511.2.1 bt511.2.2.1 bt511.2.2.2.1 bt511.2.2.2.2.1 bt511.2.2.2.2.2.1 bt511.2.2.2.2.2.2 t461 t462 t463 t464 t465 t466) else (some false)))))) else (some false))) else (some false))) else (some false)) = some true := H
                            have A43 := Aside0.mk A430
                            clear A430
                            by_cases c44 : t476 = t464
                            · rw [if_pos c44] at H
                              have c44b0 : (t476 == t464) = true := beq_iff_eq.mpr c44
                              have c44b1 : (t476 != t464) = false := bne_eq_false_iff_eq.mpr c44
                              clear c44
                              replace H := Option.bind_eq_some_iff.mp H
                              obtain ⟨⟨t483, t484, t485, t486, t487, t488, t489⟩, A450, H⟩ := H
                              replace H : (if t483 = t465 then ((life_Life_Stopped.f t484 t485 t486 t487 t488 t489).bind fun bt490 => (if bt490.1 = t466 then ((life_Life_Final.f bt490.2.1 bt490.2.2.1 bt490.2.2.2.1 bt490.2.2.2.2.1 bt490.2.2.2.2.2.1 bt490.2.2.2.2.2.2).bind fun bt497 => (if bt497.1 = true then (if t463 ≥ 5 then ((life_Life_Right.f bt497.2.1 bt497.2.2.1 bt497.2.2.2.1 bt497.2.2.2.2.1 bt497.2.2.2.2.2.1 bt497.2.2.2.2.2.2 a3).bind fun bt504 => (if bt504.1 = x17_37 then (millwrightlaw09_LifeTells.l0 kj37 l2 a3 t438 (wrap64 (x12_1 + 1)) bt504.2.1 bt504.2.2.1 bt504.2.2.2.1 bt504.2.2.2.2.1 bt504.2.2.2.2.2.1 bt504.2.2.2.2.2.2 t461 t462 t463 t464 t465 t466) else (some false))) else (some false)) else (if t463 ≥ 5 then (some false) else ((life_Life_Right.f bt497.2.1 bt497.2.2.1 bt497.2.2.2.1 bt497.2.2.2.2.1 bt497.2.2.2.2.2.1 bt497.2.2.2.2.2.2 a3).bind fun bt511 => (if bt511.1 = x17_37 then (millwrightlaw09_LifeTells.l0 kj37 l2 a3 t438 (wrap64 (x12_1 + 1)) bt511.2.1 bt511.2.2.1 bt511.2.2.2.1 bt511.2.2.2.2.1 bt511.2.2.2.2.2.1 bt511.2.2.2.2.2.2 t461 t462 t463 t464 t465 t466) else (some false)))))) else (some false))) else (some false)) = some true := H
                              have A45 := Aside0.mk A450
                              clear A450
                              by_cases c46 : t483 = t465
                              · rw [if_pos c46] at H
                                have c46b0 : (t483 == t465) = true := beq_iff_eq.mpr c46
                                have c46b1 : (t483 != t465) = false := bne_eq_false_iff_eq.mpr c46
                                clear c46
                                replace H := Option.bind_eq_some_iff.mp H
                                obtain ⟨⟨t490, t491, t492, t493, t494, t495, t496⟩, A470, H⟩ := H
                                replace H : (if t490 = t466 then ((life_Life_Final.f t491 t492 t493 t494 t495 t496).bind fun bt497 => (if bt497.1 = true then (if t463 ≥ 5 then ((life_Life_Right.f bt497.2.1 bt497.2.2.1 bt497.2.2.2.1 bt497.2.2.2.2.1 bt497.2.2.2.2.2.1 bt497.2.2.2.2.2.2 a3).bind fun bt504 => (if bt504.1 = x17_37 then (millwrightlaw09_LifeTells.l0 kj37 l2 a3 t438 (wrap64 (x12_1 + 1)) bt504.2.1 bt504.2.2.1 bt504.2.2.2.1 bt504.2.2.2.2.1 bt504.2.2.2.2.2.1 bt504.2.2.2.2.2.2 t461 t462 t463 t464 t465 t466) else (some false))) else (some false)) else (if t463 ≥ 5 then (some false) else ((life_Life_Right.f bt497.2.1 bt497.2.2.1 bt497.2.2.2.1 bt497.2.2.2.2.1 bt497.2.2.2.2.2.1 bt497.2.2.2.2.2.2 a3).bind fun bt511 => (if bt511.1 = x17_37 then (millwrightlaw09_LifeTells.l0 kj37 l2 a3 t438 (wrap64 (x12_1 + 1)) bt511.2.1 bt511.2.2.1 bt511.2.2.2.1 bt511.2.2.2.2.1 bt511.2.2.2.2.2.1 bt511.2.2.2.2.2.2 t461 t462 t463 t464 t465 t466) else (some false)))))) else (some false)) = some true := H
                                have A47 := Aside0.mk A470
                                clear A470
                                by_cases c48 : t490 = t466
                                · rw [if_pos c48] at H
                                  have c48b0 : (t490 == t466) = true := beq_iff_eq.mpr c48
                                  have c48b1 : (t490 != t466) = false := bne_eq_false_iff_eq.mpr c48
                                  clear c48
                                  replace H := Option.bind_eq_some_iff.mp H
                                  obtain ⟨⟨t497, t498, t499, t500, t501, t502, t503⟩, A490, H⟩ := H
                                  replace H : (if t497 = true then (if t463 ≥ 5 then ((life_Life_Right.f t498 t499 t500 t501 t502 t503 a3).bind fun bt504 => (if bt504.1 = x17_37 then (millwrightlaw09_LifeTells.l0 kj37 l2 a3 t438 (wrap64 (x12_1 + 1)) bt504.2.1 bt504.2.2.1 bt504.2.2.2.1 bt504.2.2.2.2.1 bt504.2.2.2.2.2.1 bt504.2.2.2.2.2.2 t461 t462 t463 t464 t465 t466) else (some false))) else (some false)) else (if t463 ≥ 5 then (some false) else ((life_Life_Right.f t498 t499 t500 t501 t502 t503 a3).bind fun bt511 => (if bt511.1 = x17_37 then (millwrightlaw09_LifeTells.l0 kj37 l2 a3 t438 (wrap64 (x12_1 + 1)) bt511.2.1 bt511.2.2.1 bt511.2.2.2.1 bt511.2.2.2.2.1 bt511.2.2.2.2.2.1 bt511.2.2.2.2.2.2 t461 t462 t463 t464 t465 t466) else (some false))))) = some true := H
                                  have A49 := Aside0.mk A490
                                  clear A490
                                  by_cases c50 : t497 = true
                                  · subst c50
                                    have H1 : (if t463 ≥ 5 then ((life_Life_Right.f t498 t499 t500 t501 t502 t503 a3).bind fun bt504 => (if bt504.1 = x17_37 then (millwrightlaw09_LifeTells.l0 kj37 l2 a3 t438 (wrap64 (x12_1 + 1)) bt504.2.1 bt504.2.2.1 bt504.2.2.2.1 bt504.2.2.2.2.1 bt504.2.2.2.2.2.1 bt504.2.2.2.2.2.2 t461 t462 t463 t464 t465 t466) else (some false))) else (some false)) = some true := by rw [if_pos rfl] at H; exact H
                                    clear H
                                    have H := H1
                                    clear H1
                                    by_cases c51 : t463 ≥ 5
                                    · rw [if_pos c51] at H
                                      have c51b0 : decide (5 ≤ t463) = true := decide_eq_true c51
                                      clear c51
                                      replace H := Option.bind_eq_some_iff.mp H
                                      obtain ⟨⟨t504, t505, t506, t507, t508, t509, t510⟩, A520, H⟩ := H
                                      replace H : (if t504 = x17_37 then (millwrightlaw09_LifeTells.l0 kj37 l2 a3 t438 (wrap64 (x12_1 + 1)) t505 t506 t507 t508 t509 t510 t461 t462 t463 t464 t465 t466) else (some false)) = some true := H
                                      have A52 := Aside0.mk A520
                                      clear A520
                                      by_cases c53 : t504 = x17_37
                                      · rw [if_pos c53] at H
                                        have c53b0 : (t504 == x17_37) = true := beq_iff_eq.mpr c53
                                        have c53b1 : (t504 != x17_37) = false := bne_eq_false_iff_eq.mpr c53
                                        clear c53
                                        have H' := Aside0.mk H
                                        clear H
                                        try go_wp2
                                        have n0_ := Aside0.mk (blk_drew BK452.out)
                                        have n1_ := Aside0.mk (blk_drew BK468.out)
                                        have n2_ := Aside0.mk (IsS62.drew HI445.out)
                                        have n3_ := Aside0.mk (below_drew1 HB.out)
                                        clear BK452
                                        clear BK468
                                        clear HI445
                                        clear HB
                                        have BK452 := n0_
                                        have BK468 := n1_
                                        have HI445 := n2_
                                        have HB := n3_
                                        clear n0_ n1_ n2_ n3_
                                        refine start_ (n := 46) (S := fun w' => w'.cell? ⟨gb452, 0, none⟩ = some (.int .i64 t461) ∧ w'.cell? ⟨gb452, 1, none⟩ = some (.int .i64 t462) ∧ w'.cell? ⟨gb452, 2, none⟩ = some (.int .i64 t463) ∧ w'.cell? ⟨gb452, 3, none⟩ = some (.int .i64 t464) ∧ w'.cell? ⟨gb452, 4, none⟩ = some (.int .i64 t465) ∧ w'.cell? ⟨gb452, 5, none⟩ = some (.int .i64 t466)) (ds := []) #[false, false, false, false, false, false, false, false, false, false, false, false, false, false, false, false, false, false, false, false, false, false, false, false, false, false, false, false, false, false, false, false, false, false, false, false, false, false, false, false, false, false, false, false, false, false] (by kernel_rfl) rfl rfl ⟨(blk_cell BK452.out 0).trans rfl, (blk_cell BK452.out 1).trans rfl, (blk_cell BK452.out 2).trans rfl, (blk_cell BK452.out 3).trans rfl, (blk_cell BK452.out 4).trans rfl, (blk_cell BK452.out 5).trans rfl⟩ (fun hHeld => ?_); refine with_tabW millwrightlaw09_LifeTells.tab16 millwrightlaw09_LifeTells.bits16 (fun HT_ HW_ => ?_)
                                        generalize wc.drew = w54 at BK452 BK468 HI445 HB hHeld ⊢
                                        refine pure_ (i := 0) (N := some 62) (v := ?_) (a' := ?_) #[true, false, false, false, false, false, false, false, false, false, false, false, false, false, false, false, false, false, false, false, false, false, false, false, false, false, false, false, false, false, false, false, false, false, false, false, false, false, false, false, false, false, false, false, false, false] rfl rfl (any_of HT_.out (by kernel_rfl)) (fun _ _ _ h => h) (Or.inl ⟨by rfl, ?_⟩) ?_ ?_
                                        rotate_left
                                        · intro w'
                                          go_simp
                                          with_reducible rfl
                                        rotate_left
                                        · simp only [Act.put, List.setIfInBounds_toArray, List.set_cons_zero, List.set_cons_succ, i64_w, i32_w]
                                          rfl
                                        refine pure_ (i := 1) (N := some 63) (v := ?_) (a' := ?_) #[true, true, false, false, false, false, false, false, false, false, false, false, false, false, false, false, false, false, false, false, false, false, false, false, false, false, false, false, false, false, false, false, false, false, false, false, false, false, false, false, false, false, false, false, false, false] rfl rfl (any_of HT_.out (by kernel_rfl)) (fun _ _ _ h => h) (Or.inl ⟨by rfl, ?_⟩) ?_ ?_
                                        rotate_left
                                        · intro w'
                                          go_simp
                                          with_reducible rfl
                                        rotate_left
                                        · simp only [Act.put, List.setIfInBounds_toArray, List.set_cons_zero, List.set_cons_succ, i64_w, i32_w]
                                          rfl
                                        refine pure_ (i := 2) (N := some 64) (v := ?_) (a' := ?_) #[true, true, true, false, false, false, false, false, false, false, false, false, false, false, false, false, false, false, false, false, false, false, false, false, false, false, false, false, false, false, false, false, false, false, false, false, false, false, false, false, false, false, false, false, false, false] rfl rfl (any_of HT_.out (by kernel_rfl)) (fun _ _ _ h => h) (Or.inl ⟨by rfl, ?_⟩) ?_ ?_
                                        rotate_left
                                        · intro w'
                                          go_simp
                                          with_reducible rfl
                                        rotate_left
                                        · simp only [Act.put, List.setIfInBounds_toArray, List.set_cons_zero, List.set_cons_succ, i64_w, i32_w]
                                          rfl
                                        refine pure_ (i := 3) (N := some 65) (v := ?_) (a' := ?_) #[true, true, true, true, false, false, false, false, false, false, false, false, false, false, false, false, false, false, false, false, false, false, false, false, false, false, false, false, false, false, false, false, false, false, false, false, false, false, false, false, false, false, false, false, false, false] rfl rfl (any_of HT_.out (by kernel_rfl)) (fun _ _ _ h => h) (Or.inl ⟨by rfl, ?_⟩) ?_ ?_
                                        rotate_left
                                        · intro w'
                                          go_simp
                                          with_reducible rfl
                                        rotate_left
                                        · simp only [Act.put, List.setIfInBounds_toArray, List.set_cons_zero, List.set_cons_succ, i64_w, i32_w]
                                          rfl
                                        refine pure_ (i := 4) (N := some 66) (v := ?_) (a' := ?_) #[true, true, true, true, true, false, false, false, false, false, false, false, false, false, false, false, false, false, false, false, false, false, false, false, false, false, false, false, false, false, false, false, false, false, false, false, false, false, false, false, false, false, false, false, false, false] rfl rfl (any_of HT_.out (by kernel_rfl)) (fun _ _ _ h => h) (Or.inl ⟨by rfl, ?_⟩) ?_ ?_
                                        rotate_left
                                        · intro w'
                                          go_simp
                                          with_reducible rfl
                                        rotate_left
                                        · simp only [Act.put, List.setIfInBounds_toArray, List.set_cons_zero, List.set_cons_succ, i64_w, i32_w]
                                          rfl
                                        refine pure_ (i := 6) (N := some 68) (v := ?_) (a' := ?_) #[true, true, true, true, true, false, true, false, false, false, false, false, false, false, false, false, false, false, false, false, false, false, false, false, false, false, false, false, false, false, false, false, false, false, false, false, false, false, false, false, false, false, false, false, false, false] rfl rfl (any_of HT_.out (by kernel_rfl)) (fun _ _ _ h => h) (Or.inl ⟨by rfl, ?_⟩) ?_ ?_
                                        rotate_left
                                        · intro w'
                                          go_simp
                                          with_reducible rfl
                                        rotate_left
                                        · simp only [Act.put, List.setIfInBounds_toArray, List.set_cons_zero, List.set_cons_succ, i64_w, i32_w]
                                          rfl
                                        refine take_ (i := 7) (N := some 69) (v := ?_) (a' := ?_) #[true, true, true, true, true, false, true, true, false, false, false, false, false, false, false, false, false, false, false, false, false, false, false, false, false, false, false, false, false, false, false, false, false, false, false, false, false, false, false, false, false, false, false, false, false, false] rfl rfl (take_ofW HT_.out HW_.out (by kernel_rfl)) (fun _ _ _ h => h) (Or.inl ⟨by rfl, ?_⟩) hHeld ?_ ?_
                                        rotate_left
                                        · rintro w' ⟨s0, s1, s2, s3, s4, s5⟩
                                          go_simp
                                          with_reducible rfl
                                        rotate_left
                                        · simp only [Act.put, List.setIfInBounds_toArray, List.set_cons_zero, List.set_cons_succ, i64_w, i32_w]
                                          rfl
                                        refine one_ (i := 5) (N := some 67) #[true, true, true, true, true, true, true, true, false, false, false, false, false, false, false, false, false, false, false, false, false, false, false, false, false, false, false, false, false, false, false, false, false, false, false, false, false, false, false, false, false, false, false, false, false, false] rfl rfl (one_of HT_.out (by kernel_rfl)) (by decide) (fun K hK => ?_)
                                        refine goes_ Try.func20 (by kernel_rfl) rfl #[.pointer (some ⟨g445, 0, none⟩)] (by rfl) rfl rfl (by (try simp only [List.map_toArray, List.map_cons, List.map_nil]); first | done | rfl | (simp only [List.length_drop, List.length_take]; rfl)) ?_
                                        with_reducible refine (life_Life_State.calls g445 t455 t456 t457 t458 t459 t460 t469 t470 t471 t472 t473 t474 t475 w _ ?side1 ?side2 A41.out).mono ?_
                                        (case side1 => repeat (first | (with_reducible first | exact HI445.out | apply IsS62.alloc | apply IsS62.drewN | apply IsS62.drew | apply IsS62.set_0 | apply IsS62.set_1 | apply IsS62.set_2 | apply IsS62.set_3 | apply IsS62.set_4 | apply IsS62.set_5 | refine IsS62.far ?_ NB445_452.out _ | refine IsS62.far ?_ NB445_468.out _) | exact HI445.out))
                                        (case side2 => repeat (first | (with_reducible first | exact HB.out | apply below_alloc | apply pw_below_drewN | apply below_drew1 | refine below_set ?_ (IsS62.ge HI445.out) | refine below_set ?_ GE452.out | refine below_set ?_ GE468.out) | exact HB.out))
                                        rintro e w55 ⟨rfl, hi, hb, hk⟩
                                        refine ⟨_, rfl, ?_⟩
                                        have n0_ := Aside0.mk (KeepBut.blk hk (g' := gb452) (o := .cells #[.int .i64 t461, .int .i64 t462, .int .i64 t463, .int .i64 t464, .int .i64 t465, .int .i64 t466] 53 (0, 0)) (by (with_reducible repeat (first | refine blk_drewN ?_ _ | refine blk_drew ?_ | refine blk_alloc ?_ _)); exact BK452.out) NB452_445.out (by simp))
                                        have n1_ := Aside0.mk (KeepBut.blk hk (g' := gb468) (o := .cells #[.int .i64 t461, .int .i64 t462, .int .i64 t463, .int .i64 t464, .int .i64 t465, .int .i64 t466] 53 (0, 0)) (by (with_reducible repeat (first | refine blk_drewN ?_ _ | refine blk_drew ?_ | refine blk_alloc ?_ _)); exact BK468.out) NB468_445.out (by simp))
                                        have n2_ := Aside0.mk (hb)
                                        have n3_ := Aside0.mk (hi)
                                        clear BK452
                                        clear BK468
                                        clear HB
                                        clear HI445
                                        have BK452 := n0_
                                        have BK468 := n1_
                                        have HB := n2_
                                        have HI445 := n3_
                                        clear n0_ n1_ n2_ n3_
                                        (try clear hb)
                                        (try clear hb2)
                                        (try clear hk)
                                        (try clear hi)
                                        refine hK.out _ _ ⟨(blk_cell BK452.out 0).trans rfl, (blk_cell BK452.out 1).trans rfl, (blk_cell BK452.out 2).trans rfl, (blk_cell BK452.out 3).trans rfl, (blk_cell BK452.out 4).trans rfl, (blk_cell BK452.out 5).trans rfl⟩ (fun hHeld => ?_)
                                        clear hK K
                                        refine norm_ (a' := ?_) ?_ ?_
                                        rotate_left
                                        · show Act.put _ (some 67) _ = _
                                          simp only [Act.put, List.setIfInBounds_toArray, List.set_cons_zero, List.set_cons_succ, i64_w, i32_w]
                                          rfl
                                        refine pure_ (i := 8) (N := some 70) (v := ?_) (a' := ?_) #[true, true, true, true, true, true, true, true, true, false, false, false, false, false, false, false, false, false, false, false, false, false, false, false, false, false, false, false, false, false, false, false, false, false, false, false, false, false, false, false, false, false, false, false, false, false] rfl rfl (any_of HT_.out (by kernel_rfl)) (fun _ _ _ h => h) (Or.inl ⟨by rfl, ?_⟩) ?_ ?_
                                        rotate_left
                                        · intro w'
                                          go_simp
                                          with_reducible rfl
                                        rotate_left
                                        · simp only [Act.put, List.setIfInBounds_toArray, List.set_cons_zero, List.set_cons_succ, i64_w, i32_w]
                                          rfl
                                        refine pure_ (i := 9) (N := some 71) (v := ?_) (a' := ?_) #[true, true, true, true, true, true, true, true, true, true, false, false, false, false, false, false, false, false, false, false, false, false, false, false, false, false, false, false, false, false, false, false, false, false, false, false, false, false, false, false, false, false, false, false, false, false] rfl rfl (any_of HT_.out (by kernel_rfl)) (fun _ _ _ h => h) (Or.inl ⟨by rfl, ?_⟩) ?_ ?_
                                        rotate_left
                                        · intro w'
                                          go_simp
                                          with_reducible rfl
                                        rotate_left
                                        · simp only [Act.put, List.setIfInBounds_toArray, List.set_cons_zero, List.set_cons_succ, i64_w, i32_w]
                                          rfl
                                        refine pure_ (i := 10) (N := some 72) (v := ?_) (a' := ?_) #[true, true, true, true, true, true, true, true, true, true, true, false, false, false, false, false, false, false, false, false, false, false, false, false, false, false, false, false, false, false, false, false, false, false, false, false, false, false, false, false, false, false, false, false, false, false] rfl rfl (any_of HT_.out (by kernel_rfl)) (fun _ _ _ h => h) (Or.inl ⟨by rfl, ?_⟩) ?_ ?_
                                        rotate_left
                                        · intro w'
                                          go_simp
                                          with_reducible rfl
                                        rotate_left
                                        · simp only [Act.put, List.setIfInBounds_toArray, List.set_cons_zero, List.set_cons_succ, i64_w, i32_w]
                                          rfl
                                        refine pure_ (i := 11) (N := some 73) (v := ?_) (a' := ?_) #[true, true, true, true, true, true, true, true, true, true, true, true, false, false, false, false, false, false, false, false, false, false, false, false, false, false, false, false, false, false, false, false, false, false, false, false, false, false, false, false, false, false, false, false, false, false] rfl rfl (any_of HT_.out (by kernel_rfl)) (fun _ _ _ h => h) (Or.inl ⟨by rfl, ?_⟩) ?_ ?_
                                        rotate_left
                                        · intro w'
                                          go_simp
                                          with_reducible rfl
                                        rotate_left
                                        · simp only [Act.put, List.setIfInBounds_toArray, List.set_cons_zero, List.set_cons_succ, i64_w, i32_w]
                                          rfl
                                        refine pure_ (i := 13) (N := some 75) (v := ?_) (a' := ?_) #[true, true, true, true, true, true, true, true, true, true, true, true, false, true, false, false, false, false, false, false, false, false, false, false, false, false, false, false, false, false, false, false, false, false, false, false, false, false, false, false, false, false, false, false, false, false] rfl rfl (any_of HT_.out (by kernel_rfl)) (fun _ _ _ h => h) (Or.inl ⟨by rfl, ?_⟩) ?_ ?_
                                        rotate_left
                                        · intro w'
                                          go_simp
                                          with_reducible rfl
                                        rotate_left
                                        · simp only [Act.put, List.setIfInBounds_toArray, List.set_cons_zero, List.set_cons_succ, i64_w, i32_w]
                                          rfl
                                        refine take_ (i := 14) (N := some 76) (v := ?_) (a' := ?_) #[true, true, true, true, true, true, true, true, true, true, true, true, false, true, true, false, false, false, false, false, false, false, false, false, false, false, false, false, false, false, false, false, false, false, false, false, false, false, false, false, false, false, false, false, false, false] rfl rfl (take_ofW HT_.out HW_.out (by kernel_rfl)) (fun _ _ _ h => h) (Or.inl ⟨by rfl, ?_⟩) hHeld ?_ ?_
                                        rotate_left
                                        · rintro w' ⟨s0, s1, s2, s3, s4, s5⟩
                                          go_simp
                                          with_reducible rfl
                                        rotate_left
                                        · simp only [Act.put, List.setIfInBounds_toArray, List.set_cons_zero, List.set_cons_succ, i64_w, i32_w]
                                          rfl
                                        refine one_ (i := 12) (N := some 74) #[true, true, true, true, true, true, true, true, true, true, true, true, true, true, true, false, false, false, false, false, false, false, false, false, false, false, false, false, false, false, false, false, false, false, false, false, false, false, false, false, false, false, false, false, false, false] rfl rfl (one_of HT_.out (by kernel_rfl)) (by decide) (fun K hK => ?_)
                                        refine goes_ Try.func23 (by kernel_rfl) rfl #[.pointer (some ⟨g445, 0, none⟩)] (by rfl) rfl rfl (by (try simp only [List.map_toArray, List.map_cons, List.map_nil]); first | done | rfl | (simp only [List.length_drop, List.length_take]; rfl)) ?_
                                        with_reducible refine (life_Life_Epoch.calls g445 t470 t471 t472 t473 t474 t475 t476 t477 t478 t479 t480 t481 t482 w _ ?side1 ?side2 A43.out).mono ?_
                                        (case side1 => repeat (first | (with_reducible first | exact HI445.out | apply IsS62.alloc | apply IsS62.drewN | apply IsS62.drew | apply IsS62.set_0 | apply IsS62.set_1 | apply IsS62.set_2 | apply IsS62.set_3 | apply IsS62.set_4 | apply IsS62.set_5 | refine IsS62.far ?_ NB445_452.out _ | refine IsS62.far ?_ NB445_468.out _) | exact HI445.out))
                                        (case side2 => repeat (first | (with_reducible first | exact HB.out | apply below_alloc | apply pw_below_drewN | apply below_drew1 | refine below_set ?_ (IsS62.ge HI445.out) | refine below_set ?_ GE452.out | refine below_set ?_ GE468.out) | exact HB.out))
                                        rintro e w56 ⟨rfl, hi, hb, hk⟩
                                        refine ⟨_, rfl, ?_⟩
                                        have n0_ := Aside0.mk (KeepBut.blk hk (g' := gb452) (o := .cells #[.int .i64 t461, .int .i64 t462, .int .i64 t463, .int .i64 t464, .int .i64 t465, .int .i64 t466] 53 (0, 0)) (by (with_reducible repeat (first | refine blk_drewN ?_ _ | refine blk_drew ?_ | refine blk_alloc ?_ _)); exact BK452.out) NB452_445.out (by simp))
                                        have n1_ := Aside0.mk (KeepBut.blk hk (g' := gb468) (o := .cells #[.int .i64 t461, .int .i64 t462, .int .i64 t463, .int .i64 t464, .int .i64 t465, .int .i64 t466] 53 (0, 0)) (by (with_reducible repeat (first | refine blk_drewN ?_ _ | refine blk_drew ?_ | refine blk_alloc ?_ _)); exact BK468.out) NB468_445.out (by simp))
                                        have n2_ := Aside0.mk (hb)
                                        have n3_ := Aside0.mk (hi)
                                        clear BK452
                                        clear BK468
                                        clear HB
                                        clear HI445
                                        have BK452 := n0_
                                        have BK468 := n1_
                                        have HB := n2_
                                        have HI445 := n3_
                                        clear n0_ n1_ n2_ n3_
                                        (try clear hb)
                                        (try clear hb2)
                                        (try clear hk)
                                        (try clear hi)
                                        refine hK.out _ _ ⟨(blk_cell BK452.out 0).trans rfl, (blk_cell BK452.out 1).trans rfl, (blk_cell BK452.out 2).trans rfl, (blk_cell BK452.out 3).trans rfl, (blk_cell BK452.out 4).trans rfl, (blk_cell BK452.out 5).trans rfl⟩ (fun hHeld => ?_)
                                        clear hK K
                                        refine norm_ (a' := ?_) ?_ ?_
                                        rotate_left
                                        · show Act.put _ (some 74) _ = _
                                          simp only [Act.put, List.setIfInBounds_toArray, List.set_cons_zero, List.set_cons_succ, i64_w, i32_w]
                                          rfl
                                        refine pure_ (i := 15) (N := some 77) (v := ?_) (a' := ?_) #[true, true, true, true, true, true, true, true, true, true, true, true, true, true, true, true, false, false, false, false, false, false, false, false, false, false, false, false, false, false, false, false, false, false, false, false, false, false, false, false, false, false, false, false, false, false] rfl rfl (any_of HT_.out (by kernel_rfl)) (fun _ _ _ h => h) (Or.inl ⟨by rfl, ?_⟩) ?_ ?_
                                        rotate_left
                                        · intro w'
                                          go_simp
                                          with_reducible rfl
                                        rotate_left
                                        · simp only [Act.put, List.setIfInBounds_toArray, List.set_cons_zero, List.set_cons_succ, i64_w, i32_w]
                                          rfl
                                        refine pure_ (i := 16) (N := some 78) (v := ?_) (a' := ?_) #[true, true, true, true, true, true, true, true, true, true, true, true, true, true, true, true, true, false, false, false, false, false, false, false, false, false, false, false, false, false, false, false, false, false, false, false, false, false, false, false, false, false, false, false, false, false] rfl rfl (any_of HT_.out (by kernel_rfl)) (fun _ _ _ h => h) (Or.inl ⟨by rfl, ?_⟩) ?_ ?_
                                        rotate_left
                                        · intro w'
                                          go_simp
                                          with_reducible rfl
                                        rotate_left
                                        · simp only [Act.put, List.setIfInBounds_toArray, List.set_cons_zero, List.set_cons_succ, i64_w, i32_w]
                                          rfl
                                        refine pure_ (i := 17) (N := some 79) (v := ?_) (a' := ?_) #[true, true, true, true, true, true, true, true, true, true, true, true, true, true, true, true, true, true, false, false, false, false, false, false, false, false, false, false, false, false, false, false, false, false, false, false, false, false, false, false, false, false, false, false, false, false] rfl rfl (any_of HT_.out (by kernel_rfl)) (fun _ _ _ h => h) (Or.inl ⟨by rfl, ?_⟩) ?_ ?_
                                        rotate_left
                                        · intro w'
                                          go_simp
                                          with_reducible rfl
                                        rotate_left
                                        · simp only [Act.put, List.setIfInBounds_toArray, List.set_cons_zero, List.set_cons_succ, i64_w, i32_w]
                                          rfl
                                        refine pure_ (i := 18) (N := some 80) (v := ?_) (a' := ?_) #[true, true, true, true, true, true, true, true, true, true, true, true, true, true, true, true, true, true, true, false, false, false, false, false, false, false, false, false, false, false, false, false, false, false, false, false, false, false, false, false, false, false, false, false, false, false] rfl rfl (any_of HT_.out (by kernel_rfl)) (fun _ _ _ h => h) (Or.inl ⟨by rfl, ?_⟩) ?_ ?_
                                        rotate_left
                                        · intro w'
                                          go_simp
                                          with_reducible rfl
                                        rotate_left
                                        · simp only [Act.put, List.setIfInBounds_toArray, List.set_cons_zero, List.set_cons_succ, i64_w, i32_w]
                                          rfl
                                        refine pure_ (i := 20) (N := some 82) (v := ?_) (a' := ?_) #[true, true, true, true, true, true, true, true, true, true, true, true, true, true, true, true, true, true, true, false, true, false, false, false, false, false, false, false, false, false, false, false, false, false, false, false, false, false, false, false, false, false, false, false, false, false] rfl rfl (any_of HT_.out (by kernel_rfl)) (fun _ _ _ h => h) (Or.inl ⟨by rfl, ?_⟩) ?_ ?_
                                        rotate_left
                                        · intro w'
                                          go_simp
                                          with_reducible rfl
                                        rotate_left
                                        · simp only [Act.put, List.setIfInBounds_toArray, List.set_cons_zero, List.set_cons_succ, i64_w, i32_w]
                                          rfl
                                        refine take_ (i := 21) (N := some 83) (v := ?_) (a' := ?_) #[true, true, true, true, true, true, true, true, true, true, true, true, true, true, true, true, true, true, true, false, true, true, false, false, false, false, false, false, false, false, false, false, false, false, false, false, false, false, false, false, false, false, false, false, false, false] rfl rfl (take_ofW HT_.out HW_.out (by kernel_rfl)) (fun _ _ _ h => h) (Or.inl ⟨by rfl, ?_⟩) hHeld ?_ ?_
                                        rotate_left
                                        · rintro w' ⟨s0, s1, s2, s3, s4, s5⟩
                                          go_simp
                                          with_reducible rfl
                                        rotate_left
                                        · simp only [Act.put, List.setIfInBounds_toArray, List.set_cons_zero, List.set_cons_succ, i64_w, i32_w]
                                          rfl
                                        refine one_ (i := 19) (N := some 81) #[true, true, true, true, true, true, true, true, true, true, true, true, true, true, true, true, true, true, true, true, true, true, false, false, false, false, false, false, false, false, false, false, false, false, false, false, false, false, false, false, false, false, false, false, false, false] rfl rfl (one_of HT_.out (by kernel_rfl)) (by decide) (fun K hK => ?_)
                                        refine goes_ Try.func22 (by kernel_rfl) rfl #[.pointer (some ⟨g445, 0, none⟩)] (by rfl) rfl rfl (by (try simp only [List.map_toArray, List.map_cons, List.map_nil]); first | done | rfl | (simp only [List.length_drop, List.length_take]; rfl)) ?_
                                        with_reducible refine (life_Life_Missed.calls g445 t477 t478 t479 t480 t481 t482 t483 t484 t485 t486 t487 t488 t489 w _ ?side1 ?side2 A45.out).mono ?_
                                        (case side1 => repeat (first | (with_reducible first | exact HI445.out | apply IsS62.alloc | apply IsS62.drewN | apply IsS62.drew | apply IsS62.set_0 | apply IsS62.set_1 | apply IsS62.set_2 | apply IsS62.set_3 | apply IsS62.set_4 | apply IsS62.set_5 | refine IsS62.far ?_ NB445_452.out _ | refine IsS62.far ?_ NB445_468.out _) | exact HI445.out))
                                        (case side2 => repeat (first | (with_reducible first | exact HB.out | apply below_alloc | apply pw_below_drewN | apply below_drew1 | refine below_set ?_ (IsS62.ge HI445.out) | refine below_set ?_ GE452.out | refine below_set ?_ GE468.out) | exact HB.out))
                                        rintro e w57 ⟨rfl, hi, hb, hk⟩
                                        refine ⟨_, rfl, ?_⟩
                                        have n0_ := Aside0.mk (KeepBut.blk hk (g' := gb452) (o := .cells #[.int .i64 t461, .int .i64 t462, .int .i64 t463, .int .i64 t464, .int .i64 t465, .int .i64 t466] 53 (0, 0)) (by (with_reducible repeat (first | refine blk_drewN ?_ _ | refine blk_drew ?_ | refine blk_alloc ?_ _)); exact BK452.out) NB452_445.out (by simp))
                                        have n1_ := Aside0.mk (KeepBut.blk hk (g' := gb468) (o := .cells #[.int .i64 t461, .int .i64 t462, .int .i64 t463, .int .i64 t464, .int .i64 t465, .int .i64 t466] 53 (0, 0)) (by (with_reducible repeat (first | refine blk_drewN ?_ _ | refine blk_drew ?_ | refine blk_alloc ?_ _)); exact BK468.out) NB468_445.out (by simp))
                                        have n2_ := Aside0.mk (hb)
                                        have n3_ := Aside0.mk (hi)
                                        clear BK452
                                        clear BK468
                                        clear HB
                                        clear HI445
                                        have BK452 := n0_
                                        have BK468 := n1_
                                        have HB := n2_
                                        have HI445 := n3_
                                        clear n0_ n1_ n2_ n3_
                                        (try clear hb)
                                        (try clear hb2)
                                        (try clear hk)
                                        (try clear hi)
                                        refine hK.out _ _ ⟨(blk_cell BK452.out 0).trans rfl, (blk_cell BK452.out 1).trans rfl, (blk_cell BK452.out 2).trans rfl, (blk_cell BK452.out 3).trans rfl, (blk_cell BK452.out 4).trans rfl, (blk_cell BK452.out 5).trans rfl⟩ (fun hHeld => ?_)
                                        clear hK K
                                        refine norm_ (a' := ?_) ?_ ?_
                                        rotate_left
                                        · show Act.put _ (some 81) _ = _
                                          simp only [Act.put, List.setIfInBounds_toArray, List.set_cons_zero, List.set_cons_succ, i64_w, i32_w]
                                          rfl
                                        refine pure_ (i := 22) (N := some 84) (v := ?_) (a' := ?_) #[true, true, true, true, true, true, true, true, true, true, true, true, true, true, true, true, true, true, true, true, true, true, true, false, false, false, false, false, false, false, false, false, false, false, false, false, false, false, false, false, false, false, false, false, false, false] rfl rfl (any_of HT_.out (by kernel_rfl)) (fun _ _ _ h => h) (Or.inl ⟨by rfl, ?_⟩) ?_ ?_
                                        rotate_left
                                        · intro w'
                                          go_simp
                                          with_reducible rfl
                                        rotate_left
                                        · simp only [Act.put, List.setIfInBounds_toArray, List.set_cons_zero, List.set_cons_succ, i64_w, i32_w]
                                          rfl
                                        refine pure_ (i := 23) (N := some 85) (v := ?_) (a' := ?_) #[true, true, true, true, true, true, true, true, true, true, true, true, true, true, true, true, true, true, true, true, true, true, true, true, false, false, false, false, false, false, false, false, false, false, false, false, false, false, false, false, false, false, false, false, false, false] rfl rfl (any_of HT_.out (by kernel_rfl)) (fun _ _ _ h => h) (Or.inl ⟨by rfl, ?_⟩) ?_ ?_
                                        rotate_left
                                        · intro w'
                                          go_simp
                                          with_reducible rfl
                                        rotate_left
                                        · simp only [Act.put, List.setIfInBounds_toArray, List.set_cons_zero, List.set_cons_succ, i64_w, i32_w]
                                          rfl
                                        refine pure_ (i := 24) (N := some 86) (v := ?_) (a' := ?_) #[true, true, true, true, true, true, true, true, true, true, true, true, true, true, true, true, true, true, true, true, true, true, true, true, true, false, false, false, false, false, false, false, false, false, false, false, false, false, false, false, false, false, false, false, false, false] rfl rfl (any_of HT_.out (by kernel_rfl)) (fun _ _ _ h => h) (Or.inl ⟨by rfl, ?_⟩) ?_ ?_
                                        rotate_left
                                        · intro w'
                                          go_simp
                                          with_reducible rfl
                                        rotate_left
                                        · simp only [Act.put, List.setIfInBounds_toArray, List.set_cons_zero, List.set_cons_succ, i64_w, i32_w]
                                          rfl
                                        refine pure_ (i := 25) (N := some 87) (v := ?_) (a' := ?_) #[true, true, true, true, true, true, true, true, true, true, true, true, true, true, true, true, true, true, true, true, true, true, true, true, true, true, false, false, false, false, false, false, false, false, false, false, false, false, false, false, false, false, false, false, false, false] rfl rfl (any_of HT_.out (by kernel_rfl)) (fun _ _ _ h => h) (Or.inl ⟨by rfl, ?_⟩) ?_ ?_
                                        rotate_left
                                        · intro w'
                                          go_simp
                                          with_reducible rfl
                                        rotate_left
                                        · simp only [Act.put, List.setIfInBounds_toArray, List.set_cons_zero, List.set_cons_succ, i64_w, i32_w]
                                          rfl
                                        refine pure_ (i := 27) (N := some 89) (v := ?_) (a' := ?_) #[true, true, true, true, true, true, true, true, true, true, true, true, true, true, true, true, true, true, true, true, true, true, true, true, true, true, false, true, false, false, false, false, false, false, false, false, false, false, false, false, false, false, false, false, false, false] rfl rfl (any_of HT_.out (by kernel_rfl)) (fun _ _ _ h => h) (Or.inl ⟨by rfl, ?_⟩) ?_ ?_
                                        rotate_left
                                        · intro w'
                                          go_simp
                                          with_reducible rfl
                                        rotate_left
                                        · simp only [Act.put, List.setIfInBounds_toArray, List.set_cons_zero, List.set_cons_succ, i64_w, i32_w]
                                          rfl
                                        refine take_ (i := 28) (N := some 90) (v := ?_) (a' := ?_) #[true, true, true, true, true, true, true, true, true, true, true, true, true, true, true, true, true, true, true, true, true, true, true, true, true, true, false, true, true, false, false, false, false, false, false, false, false, false, false, false, false, false, false, false, false, false] rfl rfl (take_ofW HT_.out HW_.out (by kernel_rfl)) (fun _ _ _ h => h) (Or.inl ⟨by rfl, ?_⟩) hHeld ?_ ?_
                                        rotate_left
                                        · rintro w' ⟨s0, s1, s2, s3, s4, s5⟩
                                          go_simp
                                          with_reducible rfl
                                        rotate_left
                                        · simp only [Act.put, List.setIfInBounds_toArray, List.set_cons_zero, List.set_cons_succ, i64_w, i32_w]
                                          rfl
                                        refine one_ (i := 26) (N := some 88) #[true, true, true, true, true, true, true, true, true, true, true, true, true, true, true, true, true, true, true, true, true, true, true, true, true, true, true, true, true, false, false, false, false, false, false, false, false, false, false, false, false, false, false, false, false, false] rfl rfl (one_of HT_.out (by kernel_rfl)) (by decide) (fun K hK => ?_)
                                        refine goes_ Try.func21 (by kernel_rfl) rfl #[.pointer (some ⟨g445, 0, none⟩)] (by rfl) rfl rfl (by (try simp only [List.map_toArray, List.map_cons, List.map_nil]); first | done | rfl | (simp only [List.length_drop, List.length_take]; rfl)) ?_
                                        with_reducible refine (life_Life_Stopped.calls g445 t484 t485 t486 t487 t488 t489 t490 t491 t492 t493 t494 t495 t496 w _ ?side1 ?side2 A47.out).mono ?_
                                        (case side1 => repeat (first | (with_reducible first | exact HI445.out | apply IsS62.alloc | apply IsS62.drewN | apply IsS62.drew | apply IsS62.set_0 | apply IsS62.set_1 | apply IsS62.set_2 | apply IsS62.set_3 | apply IsS62.set_4 | apply IsS62.set_5 | refine IsS62.far ?_ NB445_452.out _ | refine IsS62.far ?_ NB445_468.out _) | exact HI445.out))
                                        (case side2 => repeat (first | (with_reducible first | exact HB.out | apply below_alloc | apply pw_below_drewN | apply below_drew1 | refine below_set ?_ (IsS62.ge HI445.out) | refine below_set ?_ GE452.out | refine below_set ?_ GE468.out) | exact HB.out))
                                        rintro e w58 ⟨rfl, hi, hb, hk⟩
                                        refine ⟨_, rfl, ?_⟩
                                        have n0_ := Aside0.mk (KeepBut.blk hk (g' := gb452) (o := .cells #[.int .i64 t461, .int .i64 t462, .int .i64 t463, .int .i64 t464, .int .i64 t465, .int .i64 t466] 53 (0, 0)) (by (with_reducible repeat (first | refine blk_drewN ?_ _ | refine blk_drew ?_ | refine blk_alloc ?_ _)); exact BK452.out) NB452_445.out (by simp))
                                        have n1_ := Aside0.mk (KeepBut.blk hk (g' := gb468) (o := .cells #[.int .i64 t461, .int .i64 t462, .int .i64 t463, .int .i64 t464, .int .i64 t465, .int .i64 t466] 53 (0, 0)) (by (with_reducible repeat (first | refine blk_drewN ?_ _ | refine blk_drew ?_ | refine blk_alloc ?_ _)); exact BK468.out) NB468_445.out (by simp))
                                        have n2_ := Aside0.mk (hb)
                                        have n3_ := Aside0.mk (hi)
                                        clear BK452
                                        clear BK468
                                        clear HB
                                        clear HI445
                                        have BK452 := n0_
                                        have BK468 := n1_
                                        have HB := n2_
                                        have HI445 := n3_
                                        clear n0_ n1_ n2_ n3_
                                        (try clear hb)
                                        (try clear hb2)
                                        (try clear hk)
                                        (try clear hi)
                                        refine hK.out _ _ ⟨(blk_cell BK452.out 0).trans rfl, (blk_cell BK452.out 1).trans rfl, (blk_cell BK452.out 2).trans rfl, (blk_cell BK452.out 3).trans rfl, (blk_cell BK452.out 4).trans rfl, (blk_cell BK452.out 5).trans rfl⟩ (fun hHeld => ?_)
                                        clear hK K
                                        refine norm_ (a' := ?_) ?_ ?_
                                        rotate_left
                                        · show Act.put _ (some 88) _ = _
                                          simp only [Act.put, List.setIfInBounds_toArray, List.set_cons_zero, List.set_cons_succ, i64_w, i32_w]
                                          rfl
                                        refine pure_ (i := 29) (N := some 91) (v := ?_) (a' := ?_) #[true, true, true, true, true, true, true, true, true, true, true, true, true, true, true, true, true, true, true, true, true, true, true, true, true, true, true, true, true, true, false, false, false, false, false, false, false, false, false, false, false, false, false, false, false, false] rfl rfl (any_of HT_.out (by kernel_rfl)) (fun _ _ _ h => h) (Or.inl ⟨by rfl, ?_⟩) ?_ ?_
                                        rotate_left
                                        · intro w'
                                          go_simp
                                          with_reducible rfl
                                        rotate_left
                                        · simp only [Act.put, List.setIfInBounds_toArray, List.set_cons_zero, List.set_cons_succ, i64_w, i32_w]
                                          rfl
                                        refine pure_ (i := 30) (N := some 92) (v := ?_) (a' := ?_) #[true, true, true, true, true, true, true, true, true, true, true, true, true, true, true, true, true, true, true, true, true, true, true, true, true, true, true, true, true, true, true, false, false, false, false, false, false, false, false, false, false, false, false, false, false, false] rfl rfl (any_of HT_.out (by kernel_rfl)) (fun _ _ _ h => h) (Or.inl ⟨by rfl, ?_⟩) ?_ ?_
                                        rotate_left
                                        · intro w'
                                          go_simp
                                          with_reducible rfl
                                        rotate_left
                                        · simp only [Act.put, List.setIfInBounds_toArray, List.set_cons_zero, List.set_cons_succ, i64_w, i32_w]
                                          rfl
                                        refine pure_ (i := 31) (N := some 93) (v := ?_) (a' := ?_) #[true, true, true, true, true, true, true, true, true, true, true, true, true, true, true, true, true, true, true, true, true, true, true, true, true, true, true, true, true, true, true, true, false, false, false, false, false, false, false, false, false, false, false, false, false, false] rfl rfl (any_of HT_.out (by kernel_rfl)) (fun _ _ _ h => h) (Or.inl ⟨by rfl, ?_⟩) ?_ ?_
                                        rotate_left
                                        · intro w'
                                          go_simp
                                          with_reducible rfl
                                        rotate_left
                                        · simp only [Act.put, List.setIfInBounds_toArray, List.set_cons_zero, List.set_cons_succ, i64_w, i32_w]
                                          rfl
                                        refine pure_ (i := 32) (N := some 94) (v := ?_) (a' := ?_) #[true, true, true, true, true, true, true, true, true, true, true, true, true, true, true, true, true, true, true, true, true, true, true, true, true, true, true, true, true, true, true, true, true, false, false, false, false, false, false, false, false, false, false, false, false, false] rfl rfl (any_of HT_.out (by kernel_rfl)) (fun _ _ _ h => h) (Or.inl ⟨by rfl, ?_⟩) ?_ ?_
                                        rotate_left
                                        · intro w'
                                          go_simp
                                          with_reducible rfl
                                        rotate_left
                                        · simp only [Act.put, List.setIfInBounds_toArray, List.set_cons_zero, List.set_cons_succ, i64_w, i32_w]
                                          rfl
                                        refine pure_ (i := 34) (N := some 96) (v := ?_) (a' := ?_) #[true, true, true, true, true, true, true, true, true, true, true, true, true, true, true, true, true, true, true, true, true, true, true, true, true, true, true, true, true, true, true, true, true, false, true, false, false, false, false, false, false, false, false, false, false, false] rfl rfl (any_of HT_.out (by kernel_rfl)) (fun _ _ _ h => h) (Or.inl ⟨by rfl, ?_⟩) ?_ ?_
                                        rotate_left
                                        · intro w'
                                          go_simp
                                          with_reducible rfl
                                        rotate_left
                                        · simp only [Act.put, List.setIfInBounds_toArray, List.set_cons_zero, List.set_cons_succ, i64_w, i32_w]
                                          rfl
                                        refine take_ (i := 35) (N := some 97) (v := ?_) (a' := ?_) #[true, true, true, true, true, true, true, true, true, true, true, true, true, true, true, true, true, true, true, true, true, true, true, true, true, true, true, true, true, true, true, true, true, false, true, true, false, false, false, false, false, false, false, false, false, false] rfl rfl (take_ofW HT_.out HW_.out (by kernel_rfl)) (fun _ _ _ h => h) (Or.inl ⟨by rfl, ?_⟩) hHeld ?_ ?_
                                        rotate_left
                                        · rintro w' ⟨s0, s1, s2, s3, s4, s5⟩
                                          go_simp
                                          with_reducible rfl
                                        rotate_left
                                        · simp only [Act.put, List.setIfInBounds_toArray, List.set_cons_zero, List.set_cons_succ, i64_w, i32_w]
                                          rfl
                                        refine pure_ (i := 36) (N := some 98) (v := ?_) (a' := ?_) #[true, true, true, true, true, true, true, true, true, true, true, true, true, true, true, true, true, true, true, true, true, true, true, true, true, true, true, true, true, true, true, true, true, false, true, true, true, false, false, false, false, false, false, false, false, false] rfl rfl (any_of HT_.out (by kernel_rfl)) (fun _ _ _ h => h) (Or.inl ⟨by rfl, ?_⟩) ?_ ?_
                                        rotate_left
                                        · intro w'
                                          go_simp
                                          with_reducible rfl
                                        rotate_left
                                        · simp only [Act.put, List.setIfInBounds_toArray, List.set_cons_zero, List.set_cons_succ, i64_w, i32_w]
                                          rfl
                                        refine one_ (i := 33) (N := some 95) #[true, true, true, true, true, true, true, true, true, true, true, true, true, true, true, true, true, true, true, true, true, true, true, true, true, true, true, true, true, true, true, true, true, true, true, true, true, false, false, false, false, false, false, false, false, false] rfl rfl (one_of HT_.out (by kernel_rfl)) (by decide) (fun K hK => ?_)
                                        refine goes_ Try.func42 (by kernel_rfl) rfl #[.pointer (some ⟨g445, 0, none⟩)] (by rfl) rfl rfl (by (try simp only [List.map_toArray, List.map_cons, List.map_nil]); first | done | rfl | (simp only [List.length_drop, List.length_take]; rfl)) ?_
                                        with_reducible refine (life_Life_Final.calls g445 t491 t492 t493 t494 t495 t496 true t498 t499 t500 t501 t502 t503 w _ ?side1 ?side2 A49.out).mono ?_
                                        (case side1 => repeat (first | (with_reducible first | exact HI445.out | apply IsS62.alloc | apply IsS62.drewN | apply IsS62.drew | apply IsS62.set_0 | apply IsS62.set_1 | apply IsS62.set_2 | apply IsS62.set_3 | apply IsS62.set_4 | apply IsS62.set_5 | refine IsS62.far ?_ NB445_452.out _ | refine IsS62.far ?_ NB445_468.out _) | exact HI445.out))
                                        (case side2 => repeat (first | (with_reducible first | exact HB.out | apply below_alloc | apply pw_below_drewN | apply below_drew1 | refine below_set ?_ (IsS62.ge HI445.out) | refine below_set ?_ GE452.out | refine below_set ?_ GE468.out) | exact HB.out))
                                        rintro e w59 ⟨rfl, hi, hb, hk⟩
                                        refine ⟨_, rfl, ?_⟩
                                        have n0_ := Aside0.mk (KeepBut.blk hk (g' := gb452) (o := .cells #[.int .i64 t461, .int .i64 t462, .int .i64 t463, .int .i64 t464, .int .i64 t465, .int .i64 t466] 53 (0, 0)) (by (with_reducible repeat (first | refine blk_drewN ?_ _ | refine blk_drew ?_ | refine blk_alloc ?_ _)); exact BK452.out) NB452_445.out (by simp))
                                        have n1_ := Aside0.mk (KeepBut.blk hk (g' := gb468) (o := .cells #[.int .i64 t461, .int .i64 t462, .int .i64 t463, .int .i64 t464, .int .i64 t465, .int .i64 t466] 53 (0, 0)) (by (with_reducible repeat (first | refine blk_drewN ?_ _ | refine blk_drew ?_ | refine blk_alloc ?_ _)); exact BK468.out) NB468_445.out (by simp))
                                        have n2_ := Aside0.mk (hb)
                                        have n3_ := Aside0.mk (hi)
                                        clear BK452
                                        clear BK468
                                        clear HB
                                        clear HI445
                                        have BK452 := n0_
                                        have BK468 := n1_
                                        have HB := n2_
                                        have HI445 := n3_
                                        clear n0_ n1_ n2_ n3_
                                        (try clear hb)
                                        (try clear hb2)
                                        (try clear hk)
                                        (try clear hi)
                                        refine hK.out _ _ ⟨(blk_cell BK452.out 0).trans rfl, (blk_cell BK452.out 1).trans rfl, (blk_cell BK452.out 2).trans rfl, (blk_cell BK452.out 3).trans rfl, (blk_cell BK452.out 4).trans rfl, (blk_cell BK452.out 5).trans rfl⟩ (fun hHeld => ?_)
                                        clear hK K
                                        refine norm_ (a' := ?_) ?_ ?_
                                        rotate_left
                                        · show Act.put _ (some 95) _ = _
                                          simp only [Act.put, List.setIfInBounds_toArray, List.set_cons_zero, List.set_cons_succ, i64_w, i32_w]
                                          rfl
                                        refine pure_ (i := 37) (N := some 99) (v := ?_) (a' := ?_) #[true, true, true, true, true, true, true, true, true, true, true, true, true, true, true, true, true, true, true, true, true, true, true, true, true, true, true, true, true, true, true, true, true, true, true, true, true, true, false, false, false, false, false, false, false, false] rfl rfl (any_of HT_.out (by kernel_rfl)) (fun _ _ _ h => h) (Or.inl ⟨by rfl, ?_⟩) ?_ ?_
                                        rotate_left
                                        · intro w'
                                          go_simp
                                          with_reducible rfl
                                        rotate_left
                                        · simp only [Act.put, List.setIfInBounds_toArray, List.set_cons_zero, List.set_cons_succ, i64_w, i32_w]
                                          rfl
                                        refine pure_ (i := 38) (N := some 100) (v := ?_) (a' := ?_) #[true, true, true, true, true, true, true, true, true, true, true, true, true, true, true, true, true, true, true, true, true, true, true, true, true, true, true, true, true, true, true, true, true, true, true, true, true, true, true, false, false, false, false, false, false, false] rfl rfl (any_of HT_.out (by kernel_rfl)) (fun _ _ _ h => h) (Or.inl ⟨by rfl, ?_⟩) ?_ ?_
                                        rotate_left
                                        · intro w'
                                          go_simp
                                          with_reducible rfl
                                        rotate_left
                                        · simp only [Act.put, List.setIfInBounds_toArray, List.set_cons_zero, List.set_cons_succ, i64_w, i32_w]
                                          rfl
                                        refine pure_ (i := 39) (N := some 101) (v := ?_) (a' := ?_) #[true, true, true, true, true, true, true, true, true, true, true, true, true, true, true, true, true, true, true, true, true, true, true, true, true, true, true, true, true, true, true, true, true, true, true, true, true, true, true, true, false, false, false, false, false, false] rfl rfl (any_of HT_.out (by kernel_rfl)) (fun _ _ _ h => h) (Or.inl ⟨by rfl, ?_⟩) ?_ ?_
                                        rotate_left
                                        · intro w'
                                          go_simp
                                          with_reducible rfl
                                        rotate_left
                                        · simp only [Act.put, List.setIfInBounds_toArray, List.set_cons_zero, List.set_cons_succ, i64_w, i32_w]
                                          rfl
                                        refine pure_ (i := 40) (N := some 102) (v := ?_) (a' := ?_) #[true, true, true, true, true, true, true, true, true, true, true, true, true, true, true, true, true, true, true, true, true, true, true, true, true, true, true, true, true, true, true, true, true, true, true, true, true, true, true, true, true, false, false, false, false, false] rfl rfl (any_of HT_.out (by kernel_rfl)) (fun _ _ _ h => h) (Or.inl ⟨by rfl, ?_⟩) ?_ ?_
                                        rotate_left
                                        · intro w'
                                          go_simp
                                          with_reducible rfl
                                        rotate_left
                                        · simp only [Act.put, List.setIfInBounds_toArray, List.set_cons_zero, List.set_cons_succ, i64_w, i32_w]
                                          rfl
                                        refine pure_ (i := 41) (N := some 103) (v := ?_) (a' := ?_) #[true, true, true, true, true, true, true, true, true, true, true, true, true, true, true, true, true, true, true, true, true, true, true, true, true, true, true, true, true, true, true, true, true, true, true, true, true, true, true, true, true, true, false, false, false, false] rfl rfl (any_of HT_.out (by kernel_rfl)) (fun _ _ _ h => h) (Or.inl ⟨by rfl, ?_⟩) ?_ ?_
                                        rotate_left
                                        · intro w'
                                          go_simp
                                          with_reducible rfl
                                        rotate_left
                                        · simp only [Act.put, List.setIfInBounds_toArray, List.set_cons_zero, List.set_cons_succ, i64_w, i32_w]
                                          rfl
                                        refine pure_ (i := 43) (N := some 105) (v := ?_) (a' := ?_) #[true, true, true, true, true, true, true, true, true, true, true, true, true, true, true, true, true, true, true, true, true, true, true, true, true, true, true, true, true, true, true, true, true, true, true, true, true, true, true, true, true, true, false, true, false, false] rfl rfl (any_of HT_.out (by kernel_rfl)) (fun _ _ _ h => h) (Or.inl ⟨by rfl, ?_⟩) ?_ ?_
                                        rotate_left
                                        · intro w'
                                          go_simp
                                          with_reducible rfl
                                        rotate_left
                                        · simp only [Act.put, List.setIfInBounds_toArray, List.set_cons_zero, List.set_cons_succ, i64_w, i32_w]
                                          rfl
                                        refine one_ (i := 42) (N := some 104) #[true, true, true, true, true, true, true, true, true, true, true, true, true, true, true, true, true, true, true, true, true, true, true, true, true, true, true, true, true, true, true, true, true, true, true, true, true, true, true, true, true, true, true, true, false, false] rfl rfl (one_of HT_.out (by kernel_rfl)) (by decide) (fun K hK => ?_)
                                        refine goes_ Try.func43 (by kernel_rfl) rfl #[.pointer (some ⟨g445, 0, none⟩), .int .i64 a3] (by rfl) rfl rfl (by (try simp only [List.map_toArray, List.map_cons, List.map_nil]); first | done | rfl | (simp only [List.length_drop, List.length_take]; rfl)) ?_
                                        with_reducible refine (life_Life_Right.calls g445 t498 t499 t500 t501 t502 t503 a3 t504 t505 t506 t507 t508 t509 t510 w _ ?side1 ?side2 A52.out).mono ?_
                                        (case side1 => repeat (first | (with_reducible first | exact HI445.out | apply IsS62.alloc | apply IsS62.drewN | apply IsS62.drew | apply IsS62.set_0 | apply IsS62.set_1 | apply IsS62.set_2 | apply IsS62.set_3 | apply IsS62.set_4 | apply IsS62.set_5 | refine IsS62.far ?_ NB445_452.out _ | refine IsS62.far ?_ NB445_468.out _) | exact HI445.out))
                                        (case side2 => repeat (first | (with_reducible first | exact HB.out | apply below_alloc | apply pw_below_drewN | apply below_drew1 | refine below_set ?_ (IsS62.ge HI445.out) | refine below_set ?_ GE452.out | refine below_set ?_ GE468.out) | exact HB.out))
                                        rintro e w60 ⟨rfl, hi, hb, hk⟩
                                        refine ⟨_, rfl, ?_⟩
                                        have n0_ := Aside0.mk (KeepBut.blk hk (g' := gb452) (o := .cells #[.int .i64 t461, .int .i64 t462, .int .i64 t463, .int .i64 t464, .int .i64 t465, .int .i64 t466] 53 (0, 0)) (by (with_reducible repeat (first | refine blk_drewN ?_ _ | refine blk_drew ?_ | refine blk_alloc ?_ _)); exact BK452.out) NB452_445.out (by simp))
                                        have n1_ := Aside0.mk (KeepBut.blk hk (g' := gb468) (o := .cells #[.int .i64 t461, .int .i64 t462, .int .i64 t463, .int .i64 t464, .int .i64 t465, .int .i64 t466] 53 (0, 0)) (by (with_reducible repeat (first | refine blk_drewN ?_ _ | refine blk_drew ?_ | refine blk_alloc ?_ _)); exact BK468.out) NB468_445.out (by simp))
                                        have n2_ := Aside0.mk (hb)
                                        have n3_ := Aside0.mk (hi)
                                        clear BK452
                                        clear BK468
                                        clear HB
                                        clear HI445
                                        have BK452 := n0_
                                        have BK468 := n1_
                                        have HB := n2_
                                        have HI445 := n3_
                                        clear n0_ n1_ n2_ n3_
                                        (try clear hb)
                                        (try clear hb2)
                                        (try clear hk)
                                        (try clear hi)
                                        refine hK.out _ _ ⟨(blk_cell BK452.out 0).trans rfl, (blk_cell BK452.out 1).trans rfl, (blk_cell BK452.out 2).trans rfl, (blk_cell BK452.out 3).trans rfl, (blk_cell BK452.out 4).trans rfl, (blk_cell BK452.out 5).trans rfl⟩ (fun hHeld => ?_)
                                        clear hK K
                                        refine norm_ (a' := ?_) ?_ ?_
                                        rotate_left
                                        · show Act.put _ (some 104) _ = _
                                          simp only [Act.put, List.setIfInBounds_toArray, List.set_cons_zero, List.set_cons_succ, i64_w, i32_w]
                                          rfl
                                        refine pure_ (i := 44) (N := some 106) (v := ?_) (a' := ?_) #[true, true, true, true, true, true, true, true, true, true, true, true, true, true, true, true, true, true, true, true, true, true, true, true, true, true, true, true, true, true, true, true, true, true, true, true, true, true, true, true, true, true, true, true, true, false] rfl rfl (any_of HT_.out (by kernel_rfl)) (fun _ _ _ h => h) (Or.inl ⟨by rfl, ?_⟩) ?_ ?_
                                        rotate_left
                                        · intro w'
                                          go_simp
                                          with_reducible rfl
                                        rotate_left
                                        · simp only [Act.put, List.setIfInBounds_toArray, List.set_cons_zero, List.set_cons_succ, i64_w, i32_w]
                                          rfl
                                        refine pure_ (i := 45) (N := some 107) (v := ?_) (a' := ?_) #[true, true, true, true, true, true, true, true, true, true, true, true, true, true, true, true, true, true, true, true, true, true, true, true, true, true, true, true, true, true, true, true, true, true, true, true, true, true, true, true, true, true, true, true, true, true] rfl rfl (any_of HT_.out (by kernel_rfl)) (fun _ _ _ h => h) (Or.inl ⟨by rfl, ?_⟩) ?_ ?_
                                        rotate_left
                                        · intro w'
                                          go_simp
                                          with_reducible rfl
                                        rotate_left
                                        · simp only [Act.put, List.setIfInBounds_toArray, List.set_cons_zero, List.set_cons_succ, i64_w, i32_w]
                                          rfl
                                        refine done_ (done_of HT_.out (by kernel_rfl)) ?_
                                        try go_wp2
                                        go_roundg kj37
                                        case measure => have := HK1.out; have := HJ13.out; have := HJ20.out; have := HJ37.out; omega
                                        case rel => exact ⟨(wrap64 (x12_1 + 1)), (t505), (t506), (t507), (t508), (t509), (t510), (t461), (t462), (t463), (t464), (t465), (t466), (by first | rfl | (simp; done) | (simp [*]; done)), H', ⟨by have := HK1.out; have := HJ13.out; have := HJ20.out; have := HJ37.out; omega⟩, ⟨by (with_reducible repeat (first | refine blk_drewN ?_ _ | refine blk_drew ?_ | refine blk_alloc ?_ _)); exact BK452.out⟩, ⟨by repeat (first | (with_reducible first | exact HI445.out | apply IsS62.alloc | apply IsS62.drewN | apply IsS62.drew | apply IsS62.set_0 | apply IsS62.set_1 | apply IsS62.set_2 | apply IsS62.set_3 | apply IsS62.set_4 | apply IsS62.set_5 | refine IsS62.far ?_ NB445_452.out _ | refine IsS62.far ?_ NB445_468.out _) | exact HI445.out)⟩, ⟨by repeat (first | (with_reducible first | exact HB.out | apply below_alloc | apply pw_below_drewN | apply below_drew1 | refine below_set ?_ (IsS62.ge HI445.out) | refine below_set ?_ GE452.out | refine below_set ?_ GE468.out) | exact HB.out)⟩⟩
                                      · rw [if_neg c53] at H
                                        have c53b0 : (t504 == x17_37) = false := beq_eq_false_iff_ne.mpr c53
                                        have c53b1 : (t504 != x17_37) = true := bne_iff_ne.mpr c53
                                        exact absurd H (by simp)
                                    · rw [if_neg c51] at H
                                      have c51b0 : decide (5 ≤ t463) = false := decide_eq_false c51
                                      clear c51
                                      exact absurd H (by simp)
                                  · replace c50 := Bool.eq_false_iff.mpr c50
                                    subst c50
                                    have H1 : (if t463 ≥ 5 then (some false) else ((life_Life_Right.f t498 t499 t500 t501 t502 t503 a3).bind fun bt511 => (if bt511.1 = x17_37 then (millwrightlaw09_LifeTells.l0 kj37 l2 a3 t438 (wrap64 (x12_1 + 1)) bt511.2.1 bt511.2.2.1 bt511.2.2.2.1 bt511.2.2.2.2.1 bt511.2.2.2.2.2.1 bt511.2.2.2.2.2.2 t461 t462 t463 t464 t465 t466) else (some false)))) = some true := by rw [if_neg (show ¬ (false = true) by decide)] at H; exact H
                                    clear H
                                    have H := H1
                                    clear H1
                                    by_cases c61 : t463 ≥ 5
                                    · rw [if_pos c61] at H
                                      have c61b0 : decide (5 ≤ t463) = true := decide_eq_true c61
                                      clear c61
                                      exact absurd H (by simp)
                                    · rw [if_neg c61] at H
                                      have c61b0 : decide (5 ≤ t463) = false := decide_eq_false c61
                                      clear c61
                                      replace H := Option.bind_eq_some_iff.mp H
                                      obtain ⟨⟨t511, t512, t513, t514, t515, t516, t517⟩, A620, H⟩ := H
                                      replace H : (if t511 = x17_37 then (millwrightlaw09_LifeTells.l0 kj37 l2 a3 t438 (wrap64 (x12_1 + 1)) t512 t513 t514 t515 t516 t517 t461 t462 t463 t464 t465 t466) else (some false)) = some true := H
                                      have A62 := Aside0.mk A620
                                      clear A620
                                      by_cases c63 : t511 = x17_37
                                      · rw [if_pos c63] at H
                                        have c63b0 : (t511 == x17_37) = true := beq_iff_eq.mpr c63
                                        have c63b1 : (t511 != x17_37) = false := bne_eq_false_iff_eq.mpr c63
                                        clear c63
                                        have H' := Aside0.mk H
                                        clear H
                                        try go_wp2
                                        have n0_ := Aside0.mk (blk_drew BK452.out)
                                        have n1_ := Aside0.mk (blk_drew BK468.out)
                                        have n2_ := Aside0.mk (IsS62.drew HI445.out)
                                        have n3_ := Aside0.mk (below_drew1 HB.out)
                                        clear BK452
                                        clear BK468
                                        clear HI445
                                        clear HB
                                        have BK452 := n0_
                                        have BK468 := n1_
                                        have HI445 := n2_
                                        have HB := n3_
                                        clear n0_ n1_ n2_ n3_
                                        refine start_ (n := 46) (S := fun w' => w'.cell? ⟨gb452, 0, none⟩ = some (.int .i64 t461) ∧ w'.cell? ⟨gb452, 1, none⟩ = some (.int .i64 t462) ∧ w'.cell? ⟨gb452, 2, none⟩ = some (.int .i64 t463) ∧ w'.cell? ⟨gb452, 3, none⟩ = some (.int .i64 t464) ∧ w'.cell? ⟨gb452, 4, none⟩ = some (.int .i64 t465) ∧ w'.cell? ⟨gb452, 5, none⟩ = some (.int .i64 t466)) (ds := []) #[false, false, false, false, false, false, false, false, false, false, false, false, false, false, false, false, false, false, false, false, false, false, false, false, false, false, false, false, false, false, false, false, false, false, false, false, false, false, false, false, false, false, false, false, false, false] (by kernel_rfl) rfl rfl ⟨(blk_cell BK452.out 0).trans rfl, (blk_cell BK452.out 1).trans rfl, (blk_cell BK452.out 2).trans rfl, (blk_cell BK452.out 3).trans rfl, (blk_cell BK452.out 4).trans rfl, (blk_cell BK452.out 5).trans rfl⟩ (fun hHeld => ?_); refine with_tabW millwrightlaw09_LifeTells.tab16 millwrightlaw09_LifeTells.bits16 (fun HT_ HW_ => ?_)
                                        generalize wc.drew = w64 at BK452 BK468 HI445 HB hHeld ⊢
                                        refine pure_ (i := 0) (N := some 62) (v := ?_) (a' := ?_) #[true, false, false, false, false, false, false, false, false, false, false, false, false, false, false, false, false, false, false, false, false, false, false, false, false, false, false, false, false, false, false, false, false, false, false, false, false, false, false, false, false, false, false, false, false, false] rfl rfl (any_of HT_.out (by kernel_rfl)) (fun _ _ _ h => h) (Or.inl ⟨by rfl, ?_⟩) ?_ ?_
                                        rotate_left
                                        · intro w'
                                          go_simp
                                          with_reducible rfl
                                        rotate_left
                                        · simp only [Act.put, List.setIfInBounds_toArray, List.set_cons_zero, List.set_cons_succ, i64_w, i32_w]
                                          rfl
                                        refine pure_ (i := 1) (N := some 63) (v := ?_) (a' := ?_) #[true, true, false, false, false, false, false, false, false, false, false, false, false, false, false, false, false, false, false, false, false, false, false, false, false, false, false, false, false, false, false, false, false, false, false, false, false, false, false, false, false, false, false, false, false, false] rfl rfl (any_of HT_.out (by kernel_rfl)) (fun _ _ _ h => h) (Or.inl ⟨by rfl, ?_⟩) ?_ ?_
                                        rotate_left
                                        · intro w'
                                          go_simp
                                          with_reducible rfl
                                        rotate_left
                                        · simp only [Act.put, List.setIfInBounds_toArray, List.set_cons_zero, List.set_cons_succ, i64_w, i32_w]
                                          rfl
                                        refine pure_ (i := 2) (N := some 64) (v := ?_) (a' := ?_) #[true, true, true, false, false, false, false, false, false, false, false, false, false, false, false, false, false, false, false, false, false, false, false, false, false, false, false, false, false, false, false, false, false, false, false, false, false, false, false, false, false, false, false, false, false, false] rfl rfl (any_of HT_.out (by kernel_rfl)) (fun _ _ _ h => h) (Or.inl ⟨by rfl, ?_⟩) ?_ ?_
                                        rotate_left
                                        · intro w'
                                          go_simp
                                          with_reducible rfl
                                        rotate_left
                                        · simp only [Act.put, List.setIfInBounds_toArray, List.set_cons_zero, List.set_cons_succ, i64_w, i32_w]
                                          rfl
                                        refine pure_ (i := 3) (N := some 65) (v := ?_) (a' := ?_) #[true, true, true, true, false, false, false, false, false, false, false, false, false, false, false, false, false, false, false, false, false, false, false, false, false, false, false, false, false, false, false, false, false, false, false, false, false, false, false, false, false, false, false, false, false, false] rfl rfl (any_of HT_.out (by kernel_rfl)) (fun _ _ _ h => h) (Or.inl ⟨by rfl, ?_⟩) ?_ ?_
                                        rotate_left
                                        · intro w'
                                          go_simp
                                          with_reducible rfl
                                        rotate_left
                                        · simp only [Act.put, List.setIfInBounds_toArray, List.set_cons_zero, List.set_cons_succ, i64_w, i32_w]
                                          rfl
                                        refine pure_ (i := 4) (N := some 66) (v := ?_) (a' := ?_) #[true, true, true, true, true, false, false, false, false, false, false, false, false, false, false, false, false, false, false, false, false, false, false, false, false, false, false, false, false, false, false, false, false, false, false, false, false, false, false, false, false, false, false, false, false, false] rfl rfl (any_of HT_.out (by kernel_rfl)) (fun _ _ _ h => h) (Or.inl ⟨by rfl, ?_⟩) ?_ ?_
                                        rotate_left
                                        · intro w'
                                          go_simp
                                          with_reducible rfl
                                        rotate_left
                                        · simp only [Act.put, List.setIfInBounds_toArray, List.set_cons_zero, List.set_cons_succ, i64_w, i32_w]
                                          rfl
                                        refine pure_ (i := 6) (N := some 68) (v := ?_) (a' := ?_) #[true, true, true, true, true, false, true, false, false, false, false, false, false, false, false, false, false, false, false, false, false, false, false, false, false, false, false, false, false, false, false, false, false, false, false, false, false, false, false, false, false, false, false, false, false, false] rfl rfl (any_of HT_.out (by kernel_rfl)) (fun _ _ _ h => h) (Or.inl ⟨by rfl, ?_⟩) ?_ ?_
                                        rotate_left
                                        · intro w'
                                          go_simp
                                          with_reducible rfl
                                        rotate_left
                                        · simp only [Act.put, List.setIfInBounds_toArray, List.set_cons_zero, List.set_cons_succ, i64_w, i32_w]
                                          rfl
                                        refine take_ (i := 7) (N := some 69) (v := ?_) (a' := ?_) #[true, true, true, true, true, false, true, true, false, false, false, false, false, false, false, false, false, false, false, false, false, false, false, false, false, false, false, false, false, false, false, false, false, false, false, false, false, false, false, false, false, false, false, false, false, false] rfl rfl (take_ofW HT_.out HW_.out (by kernel_rfl)) (fun _ _ _ h => h) (Or.inl ⟨by rfl, ?_⟩) hHeld ?_ ?_
                                        rotate_left
                                        · rintro w' ⟨s0, s1, s2, s3, s4, s5⟩
                                          go_simp
                                          with_reducible rfl
                                        rotate_left
                                        · simp only [Act.put, List.setIfInBounds_toArray, List.set_cons_zero, List.set_cons_succ, i64_w, i32_w]
                                          rfl
                                        refine one_ (i := 5) (N := some 67) #[true, true, true, true, true, true, true, true, false, false, false, false, false, false, false, false, false, false, false, false, false, false, false, false, false, false, false, false, false, false, false, false, false, false, false, false, false, false, false, false, false, false, false, false, false, false] rfl rfl (one_of HT_.out (by kernel_rfl)) (by decide) (fun K hK => ?_)
                                        refine goes_ Try.func20 (by kernel_rfl) rfl #[.pointer (some ⟨g445, 0, none⟩)] (by rfl) rfl rfl (by (try simp only [List.map_toArray, List.map_cons, List.map_nil]); first | done | rfl | (simp only [List.length_drop, List.length_take]; rfl)) ?_
                                        with_reducible refine (life_Life_State.calls g445 t455 t456 t457 t458 t459 t460 t469 t470 t471 t472 t473 t474 t475 w _ ?side1 ?side2 A41.out).mono ?_
                                        (case side1 => repeat (first | (with_reducible first | exact HI445.out | apply IsS62.alloc | apply IsS62.drewN | apply IsS62.drew | apply IsS62.set_0 | apply IsS62.set_1 | apply IsS62.set_2 | apply IsS62.set_3 | apply IsS62.set_4 | apply IsS62.set_5 | refine IsS62.far ?_ NB445_452.out _ | refine IsS62.far ?_ NB445_468.out _) | exact HI445.out))
                                        (case side2 => repeat (first | (with_reducible first | exact HB.out | apply below_alloc | apply pw_below_drewN | apply below_drew1 | refine below_set ?_ (IsS62.ge HI445.out) | refine below_set ?_ GE452.out | refine below_set ?_ GE468.out) | exact HB.out))
                                        rintro e w65 ⟨rfl, hi, hb, hk⟩
                                        refine ⟨_, rfl, ?_⟩
                                        have n0_ := Aside0.mk (KeepBut.blk hk (g' := gb452) (o := .cells #[.int .i64 t461, .int .i64 t462, .int .i64 t463, .int .i64 t464, .int .i64 t465, .int .i64 t466] 53 (0, 0)) (by (with_reducible repeat (first | refine blk_drewN ?_ _ | refine blk_drew ?_ | refine blk_alloc ?_ _)); exact BK452.out) NB452_445.out (by simp))
                                        have n1_ := Aside0.mk (KeepBut.blk hk (g' := gb468) (o := .cells #[.int .i64 t461, .int .i64 t462, .int .i64 t463, .int .i64 t464, .int .i64 t465, .int .i64 t466] 53 (0, 0)) (by (with_reducible repeat (first | refine blk_drewN ?_ _ | refine blk_drew ?_ | refine blk_alloc ?_ _)); exact BK468.out) NB468_445.out (by simp))
                                        have n2_ := Aside0.mk (hb)
                                        have n3_ := Aside0.mk (hi)
                                        clear BK452
                                        clear BK468
                                        clear HB
                                        clear HI445
                                        have BK452 := n0_
                                        have BK468 := n1_
                                        have HB := n2_
                                        have HI445 := n3_
                                        clear n0_ n1_ n2_ n3_
                                        (try clear hb)
                                        (try clear hb2)
                                        (try clear hk)
                                        (try clear hi)
                                        refine hK.out _ _ ⟨(blk_cell BK452.out 0).trans rfl, (blk_cell BK452.out 1).trans rfl, (blk_cell BK452.out 2).trans rfl, (blk_cell BK452.out 3).trans rfl, (blk_cell BK452.out 4).trans rfl, (blk_cell BK452.out 5).trans rfl⟩ (fun hHeld => ?_)
                                        clear hK K
                                        refine norm_ (a' := ?_) ?_ ?_
                                        rotate_left
                                        · show Act.put _ (some 67) _ = _
                                          simp only [Act.put, List.setIfInBounds_toArray, List.set_cons_zero, List.set_cons_succ, i64_w, i32_w]
                                          rfl
                                        refine pure_ (i := 8) (N := some 70) (v := ?_) (a' := ?_) #[true, true, true, true, true, true, true, true, true, false, false, false, false, false, false, false, false, false, false, false, false, false, false, false, false, false, false, false, false, false, false, false, false, false, false, false, false, false, false, false, false, false, false, false, false, false] rfl rfl (any_of HT_.out (by kernel_rfl)) (fun _ _ _ h => h) (Or.inl ⟨by rfl, ?_⟩) ?_ ?_
                                        rotate_left
                                        · intro w'
                                          go_simp
                                          with_reducible rfl
                                        rotate_left
                                        · simp only [Act.put, List.setIfInBounds_toArray, List.set_cons_zero, List.set_cons_succ, i64_w, i32_w]
                                          rfl
                                        refine pure_ (i := 9) (N := some 71) (v := ?_) (a' := ?_) #[true, true, true, true, true, true, true, true, true, true, false, false, false, false, false, false, false, false, false, false, false, false, false, false, false, false, false, false, false, false, false, false, false, false, false, false, false, false, false, false, false, false, false, false, false, false] rfl rfl (any_of HT_.out (by kernel_rfl)) (fun _ _ _ h => h) (Or.inl ⟨by rfl, ?_⟩) ?_ ?_
                                        rotate_left
                                        · intro w'
                                          go_simp
                                          with_reducible rfl
                                        rotate_left
                                        · simp only [Act.put, List.setIfInBounds_toArray, List.set_cons_zero, List.set_cons_succ, i64_w, i32_w]
                                          rfl
                                        refine pure_ (i := 10) (N := some 72) (v := ?_) (a' := ?_) #[true, true, true, true, true, true, true, true, true, true, true, false, false, false, false, false, false, false, false, false, false, false, false, false, false, false, false, false, false, false, false, false, false, false, false, false, false, false, false, false, false, false, false, false, false, false] rfl rfl (any_of HT_.out (by kernel_rfl)) (fun _ _ _ h => h) (Or.inl ⟨by rfl, ?_⟩) ?_ ?_
                                        rotate_left
                                        · intro w'
                                          go_simp
                                          with_reducible rfl
                                        rotate_left
                                        · simp only [Act.put, List.setIfInBounds_toArray, List.set_cons_zero, List.set_cons_succ, i64_w, i32_w]
                                          rfl
                                        refine pure_ (i := 11) (N := some 73) (v := ?_) (a' := ?_) #[true, true, true, true, true, true, true, true, true, true, true, true, false, false, false, false, false, false, false, false, false, false, false, false, false, false, false, false, false, false, false, false, false, false, false, false, false, false, false, false, false, false, false, false, false, false] rfl rfl (any_of HT_.out (by kernel_rfl)) (fun _ _ _ h => h) (Or.inl ⟨by rfl, ?_⟩) ?_ ?_
                                        rotate_left
                                        · intro w'
                                          go_simp
                                          with_reducible rfl
                                        rotate_left
                                        · simp only [Act.put, List.setIfInBounds_toArray, List.set_cons_zero, List.set_cons_succ, i64_w, i32_w]
                                          rfl
                                        refine pure_ (i := 13) (N := some 75) (v := ?_) (a' := ?_) #[true, true, true, true, true, true, true, true, true, true, true, true, false, true, false, false, false, false, false, false, false, false, false, false, false, false, false, false, false, false, false, false, false, false, false, false, false, false, false, false, false, false, false, false, false, false] rfl rfl (any_of HT_.out (by kernel_rfl)) (fun _ _ _ h => h) (Or.inl ⟨by rfl, ?_⟩) ?_ ?_
                                        rotate_left
                                        · intro w'
                                          go_simp
                                          with_reducible rfl
                                        rotate_left
                                        · simp only [Act.put, List.setIfInBounds_toArray, List.set_cons_zero, List.set_cons_succ, i64_w, i32_w]
                                          rfl
                                        refine take_ (i := 14) (N := some 76) (v := ?_) (a' := ?_) #[true, true, true, true, true, true, true, true, true, true, true, true, false, true, true, false, false, false, false, false, false, false, false, false, false, false, false, false, false, false, false, false, false, false, false, false, false, false, false, false, false, false, false, false, false, false] rfl rfl (take_ofW HT_.out HW_.out (by kernel_rfl)) (fun _ _ _ h => h) (Or.inl ⟨by rfl, ?_⟩) hHeld ?_ ?_
                                        rotate_left
                                        · rintro w' ⟨s0, s1, s2, s3, s4, s5⟩
                                          go_simp
                                          with_reducible rfl
                                        rotate_left
                                        · simp only [Act.put, List.setIfInBounds_toArray, List.set_cons_zero, List.set_cons_succ, i64_w, i32_w]
                                          rfl
                                        refine one_ (i := 12) (N := some 74) #[true, true, true, true, true, true, true, true, true, true, true, true, true, true, true, false, false, false, false, false, false, false, false, false, false, false, false, false, false, false, false, false, false, false, false, false, false, false, false, false, false, false, false, false, false, false] rfl rfl (one_of HT_.out (by kernel_rfl)) (by decide) (fun K hK => ?_)
                                        refine goes_ Try.func23 (by kernel_rfl) rfl #[.pointer (some ⟨g445, 0, none⟩)] (by rfl) rfl rfl (by (try simp only [List.map_toArray, List.map_cons, List.map_nil]); first | done | rfl | (simp only [List.length_drop, List.length_take]; rfl)) ?_
                                        with_reducible refine (life_Life_Epoch.calls g445 t470 t471 t472 t473 t474 t475 t476 t477 t478 t479 t480 t481 t482 w _ ?side1 ?side2 A43.out).mono ?_
                                        (case side1 => repeat (first | (with_reducible first | exact HI445.out | apply IsS62.alloc | apply IsS62.drewN | apply IsS62.drew | apply IsS62.set_0 | apply IsS62.set_1 | apply IsS62.set_2 | apply IsS62.set_3 | apply IsS62.set_4 | apply IsS62.set_5 | refine IsS62.far ?_ NB445_452.out _ | refine IsS62.far ?_ NB445_468.out _) | exact HI445.out))
                                        (case side2 => repeat (first | (with_reducible first | exact HB.out | apply below_alloc | apply pw_below_drewN | apply below_drew1 | refine below_set ?_ (IsS62.ge HI445.out) | refine below_set ?_ GE452.out | refine below_set ?_ GE468.out) | exact HB.out))
                                        rintro e w66 ⟨rfl, hi, hb, hk⟩
                                        refine ⟨_, rfl, ?_⟩
                                        have n0_ := Aside0.mk (KeepBut.blk hk (g' := gb452) (o := .cells #[.int .i64 t461, .int .i64 t462, .int .i64 t463, .int .i64 t464, .int .i64 t465, .int .i64 t466] 53 (0, 0)) (by (with_reducible repeat (first | refine blk_drewN ?_ _ | refine blk_drew ?_ | refine blk_alloc ?_ _)); exact BK452.out) NB452_445.out (by simp))
                                        have n1_ := Aside0.mk (KeepBut.blk hk (g' := gb468) (o := .cells #[.int .i64 t461, .int .i64 t462, .int .i64 t463, .int .i64 t464, .int .i64 t465, .int .i64 t466] 53 (0, 0)) (by (with_reducible repeat (first | refine blk_drewN ?_ _ | refine blk_drew ?_ | refine blk_alloc ?_ _)); exact BK468.out) NB468_445.out (by simp))
                                        have n2_ := Aside0.mk (hb)
                                        have n3_ := Aside0.mk (hi)
                                        clear BK452
                                        clear BK468
                                        clear HB
                                        clear HI445
                                        have BK452 := n0_
                                        have BK468 := n1_
                                        have HB := n2_
                                        have HI445 := n3_
                                        clear n0_ n1_ n2_ n3_
                                        (try clear hb)
                                        (try clear hb2)
                                        (try clear hk)
                                        (try clear hi)
                                        refine hK.out _ _ ⟨(blk_cell BK452.out 0).trans rfl, (blk_cell BK452.out 1).trans rfl, (blk_cell BK452.out 2).trans rfl, (blk_cell BK452.out 3).trans rfl, (blk_cell BK452.out 4).trans rfl, (blk_cell BK452.out 5).trans rfl⟩ (fun hHeld => ?_)
                                        clear hK K
                                        refine norm_ (a' := ?_) ?_ ?_
                                        rotate_left
                                        · show Act.put _ (some 74) _ = _
                                          simp only [Act.put, List.setIfInBounds_toArray, List.set_cons_zero, List.set_cons_succ, i64_w, i32_w]
                                          rfl
                                        refine pure_ (i := 15) (N := some 77) (v := ?_) (a' := ?_) #[true, true, true, true, true, true, true, true, true, true, true, true, true, true, true, true, false, false, false, false, false, false, false, false, false, false, false, false, false, false, false, false, false, false, false, false, false, false, false, false, false, false, false, false, false, false] rfl rfl (any_of HT_.out (by kernel_rfl)) (fun _ _ _ h => h) (Or.inl ⟨by rfl, ?_⟩) ?_ ?_
                                        rotate_left
                                        · intro w'
                                          go_simp
                                          with_reducible rfl
                                        rotate_left
                                        · simp only [Act.put, List.setIfInBounds_toArray, List.set_cons_zero, List.set_cons_succ, i64_w, i32_w]
                                          rfl
                                        refine pure_ (i := 16) (N := some 78) (v := ?_) (a' := ?_) #[true, true, true, true, true, true, true, true, true, true, true, true, true, true, true, true, true, false, false, false, false, false, false, false, false, false, false, false, false, false, false, false, false, false, false, false, false, false, false, false, false, false, false, false, false, false] rfl rfl (any_of HT_.out (by kernel_rfl)) (fun _ _ _ h => h) (Or.inl ⟨by rfl, ?_⟩) ?_ ?_
                                        rotate_left
                                        · intro w'
                                          go_simp
                                          with_reducible rfl
                                        rotate_left
                                        · simp only [Act.put, List.setIfInBounds_toArray, List.set_cons_zero, List.set_cons_succ, i64_w, i32_w]
                                          rfl
                                        refine pure_ (i := 17) (N := some 79) (v := ?_) (a' := ?_) #[true, true, true, true, true, true, true, true, true, true, true, true, true, true, true, true, true, true, false, false, false, false, false, false, false, false, false, false, false, false, false, false, false, false, false, false, false, false, false, false, false, false, false, false, false, false] rfl rfl (any_of HT_.out (by kernel_rfl)) (fun _ _ _ h => h) (Or.inl ⟨by rfl, ?_⟩) ?_ ?_
                                        rotate_left
                                        · intro w'
                                          go_simp
                                          with_reducible rfl
                                        rotate_left
                                        · simp only [Act.put, List.setIfInBounds_toArray, List.set_cons_zero, List.set_cons_succ, i64_w, i32_w]
                                          rfl
                                        refine pure_ (i := 18) (N := some 80) (v := ?_) (a' := ?_) #[true, true, true, true, true, true, true, true, true, true, true, true, true, true, true, true, true, true, true, false, false, false, false, false, false, false, false, false, false, false, false, false, false, false, false, false, false, false, false, false, false, false, false, false, false, false] rfl rfl (any_of HT_.out (by kernel_rfl)) (fun _ _ _ h => h) (Or.inl ⟨by rfl, ?_⟩) ?_ ?_
                                        rotate_left
                                        · intro w'
                                          go_simp
                                          with_reducible rfl
                                        rotate_left
                                        · simp only [Act.put, List.setIfInBounds_toArray, List.set_cons_zero, List.set_cons_succ, i64_w, i32_w]
                                          rfl
                                        refine pure_ (i := 20) (N := some 82) (v := ?_) (a' := ?_) #[true, true, true, true, true, true, true, true, true, true, true, true, true, true, true, true, true, true, true, false, true, false, false, false, false, false, false, false, false, false, false, false, false, false, false, false, false, false, false, false, false, false, false, false, false, false] rfl rfl (any_of HT_.out (by kernel_rfl)) (fun _ _ _ h => h) (Or.inl ⟨by rfl, ?_⟩) ?_ ?_
                                        rotate_left
                                        · intro w'
                                          go_simp
                                          with_reducible rfl
                                        rotate_left
                                        · simp only [Act.put, List.setIfInBounds_toArray, List.set_cons_zero, List.set_cons_succ, i64_w, i32_w]
                                          rfl
                                        refine take_ (i := 21) (N := some 83) (v := ?_) (a' := ?_) #[true, true, true, true, true, true, true, true, true, true, true, true, true, true, true, true, true, true, true, false, true, true, false, false, false, false, false, false, false, false, false, false, false, false, false, false, false, false, false, false, false, false, false, false, false, false] rfl rfl (take_ofW HT_.out HW_.out (by kernel_rfl)) (fun _ _ _ h => h) (Or.inl ⟨by rfl, ?_⟩) hHeld ?_ ?_
                                        rotate_left
                                        · rintro w' ⟨s0, s1, s2, s3, s4, s5⟩
                                          go_simp
                                          with_reducible rfl
                                        rotate_left
                                        · simp only [Act.put, List.setIfInBounds_toArray, List.set_cons_zero, List.set_cons_succ, i64_w, i32_w]
                                          rfl
                                        refine one_ (i := 19) (N := some 81) #[true, true, true, true, true, true, true, true, true, true, true, true, true, true, true, true, true, true, true, true, true, true, false, false, false, false, false, false, false, false, false, false, false, false, false, false, false, false, false, false, false, false, false, false, false, false] rfl rfl (one_of HT_.out (by kernel_rfl)) (by decide) (fun K hK => ?_)
                                        refine goes_ Try.func22 (by kernel_rfl) rfl #[.pointer (some ⟨g445, 0, none⟩)] (by rfl) rfl rfl (by (try simp only [List.map_toArray, List.map_cons, List.map_nil]); first | done | rfl | (simp only [List.length_drop, List.length_take]; rfl)) ?_
                                        with_reducible refine (life_Life_Missed.calls g445 t477 t478 t479 t480 t481 t482 t483 t484 t485 t486 t487 t488 t489 w _ ?side1 ?side2 A45.out).mono ?_
                                        (case side1 => repeat (first | (with_reducible first | exact HI445.out | apply IsS62.alloc | apply IsS62.drewN | apply IsS62.drew | apply IsS62.set_0 | apply IsS62.set_1 | apply IsS62.set_2 | apply IsS62.set_3 | apply IsS62.set_4 | apply IsS62.set_5 | refine IsS62.far ?_ NB445_452.out _ | refine IsS62.far ?_ NB445_468.out _) | exact HI445.out))
                                        (case side2 => repeat (first | (with_reducible first | exact HB.out | apply below_alloc | apply pw_below_drewN | apply below_drew1 | refine below_set ?_ (IsS62.ge HI445.out) | refine below_set ?_ GE452.out | refine below_set ?_ GE468.out) | exact HB.out))
                                        rintro e w67 ⟨rfl, hi, hb, hk⟩
                                        refine ⟨_, rfl, ?_⟩
                                        have n0_ := Aside0.mk (KeepBut.blk hk (g' := gb452) (o := .cells #[.int .i64 t461, .int .i64 t462, .int .i64 t463, .int .i64 t464, .int .i64 t465, .int .i64 t466] 53 (0, 0)) (by (with_reducible repeat (first | refine blk_drewN ?_ _ | refine blk_drew ?_ | refine blk_alloc ?_ _)); exact BK452.out) NB452_445.out (by simp))
                                        have n1_ := Aside0.mk (KeepBut.blk hk (g' := gb468) (o := .cells #[.int .i64 t461, .int .i64 t462, .int .i64 t463, .int .i64 t464, .int .i64 t465, .int .i64 t466] 53 (0, 0)) (by (with_reducible repeat (first | refine blk_drewN ?_ _ | refine blk_drew ?_ | refine blk_alloc ?_ _)); exact BK468.out) NB468_445.out (by simp))
                                        have n2_ := Aside0.mk (hb)
                                        have n3_ := Aside0.mk (hi)
                                        clear BK452
                                        clear BK468
                                        clear HB
                                        clear HI445
                                        have BK452 := n0_
                                        have BK468 := n1_
                                        have HB := n2_
                                        have HI445 := n3_
                                        clear n0_ n1_ n2_ n3_
                                        (try clear hb)
                                        (try clear hb2)
                                        (try clear hk)
                                        (try clear hi)
                                        refine hK.out _ _ ⟨(blk_cell BK452.out 0).trans rfl, (blk_cell BK452.out 1).trans rfl, (blk_cell BK452.out 2).trans rfl, (blk_cell BK452.out 3).trans rfl, (blk_cell BK452.out 4).trans rfl, (blk_cell BK452.out 5).trans rfl⟩ (fun hHeld => ?_)
                                        clear hK K
                                        refine norm_ (a' := ?_) ?_ ?_
                                        rotate_left
                                        · show Act.put _ (some 81) _ = _
                                          simp only [Act.put, List.setIfInBounds_toArray, List.set_cons_zero, List.set_cons_succ, i64_w, i32_w]
                                          rfl
                                        refine pure_ (i := 22) (N := some 84) (v := ?_) (a' := ?_) #[true, true, true, true, true, true, true, true, true, true, true, true, true, true, true, true, true, true, true, true, true, true, true, false, false, false, false, false, false, false, false, false, false, false, false, false, false, false, false, false, false, false, false, false, false, false] rfl rfl (any_of HT_.out (by kernel_rfl)) (fun _ _ _ h => h) (Or.inl ⟨by rfl, ?_⟩) ?_ ?_
                                        rotate_left
                                        · intro w'
                                          go_simp
                                          with_reducible rfl
                                        rotate_left
                                        · simp only [Act.put, List.setIfInBounds_toArray, List.set_cons_zero, List.set_cons_succ, i64_w, i32_w]
                                          rfl
                                        refine pure_ (i := 23) (N := some 85) (v := ?_) (a' := ?_) #[true, true, true, true, true, true, true, true, true, true, true, true, true, true, true, true, true, true, true, true, true, true, true, true, false, false, false, false, false, false, false, false, false, false, false, false, false, false, false, false, false, false, false, false, false, false] rfl rfl (any_of HT_.out (by kernel_rfl)) (fun _ _ _ h => h) (Or.inl ⟨by rfl, ?_⟩) ?_ ?_
                                        rotate_left
                                        · intro w'
                                          go_simp
                                          with_reducible rfl
                                        rotate_left
                                        · simp only [Act.put, List.setIfInBounds_toArray, List.set_cons_zero, List.set_cons_succ, i64_w, i32_w]
                                          rfl
                                        refine pure_ (i := 24) (N := some 86) (v := ?_) (a' := ?_) #[true, true, true, true, true, true, true, true, true, true, true, true, true, true, true, true, true, true, true, true, true, true, true, true, true, false, false, false, false, false, false, false, false, false, false, false, false, false, false, false, false, false, false, false, false, false] rfl rfl (any_of HT_.out (by kernel_rfl)) (fun _ _ _ h => h) (Or.inl ⟨by rfl, ?_⟩) ?_ ?_
                                        rotate_left
                                        · intro w'
                                          go_simp
                                          with_reducible rfl
                                        rotate_left
                                        · simp only [Act.put, List.setIfInBounds_toArray, List.set_cons_zero, List.set_cons_succ, i64_w, i32_w]
                                          rfl
                                        refine pure_ (i := 25) (N := some 87) (v := ?_) (a' := ?_) #[true, true, true, true, true, true, true, true, true, true, true, true, true, true, true, true, true, true, true, true, true, true, true, true, true, true, false, false, false, false, false, false, false, false, false, false, false, false, false, false, false, false, false, false, false, false] rfl rfl (any_of HT_.out (by kernel_rfl)) (fun _ _ _ h => h) (Or.inl ⟨by rfl, ?_⟩) ?_ ?_
                                        rotate_left
                                        · intro w'
                                          go_simp
                                          with_reducible rfl
                                        rotate_left
                                        · simp only [Act.put, List.setIfInBounds_toArray, List.set_cons_zero, List.set_cons_succ, i64_w, i32_w]
                                          rfl
                                        refine pure_ (i := 27) (N := some 89) (v := ?_) (a' := ?_) #[true, true, true, true, true, true, true, true, true, true, true, true, true, true, true, true, true, true, true, true, true, true, true, true, true, true, false, true, false, false, false, false, false, false, false, false, false, false, false, false, false, false, false, false, false, false] rfl rfl (any_of HT_.out (by kernel_rfl)) (fun _ _ _ h => h) (Or.inl ⟨by rfl, ?_⟩) ?_ ?_
                                        rotate_left
                                        · intro w'
                                          go_simp
                                          with_reducible rfl
                                        rotate_left
                                        · simp only [Act.put, List.setIfInBounds_toArray, List.set_cons_zero, List.set_cons_succ, i64_w, i32_w]
                                          rfl
                                        refine take_ (i := 28) (N := some 90) (v := ?_) (a' := ?_) #[true, true, true, true, true, true, true, true, true, true, true, true, true, true, true, true, true, true, true, true, true, true, true, true, true, true, false, true, true, false, false, false, false, false, false, false, false, false, false, false, false, false, false, false, false, false] rfl rfl (take_ofW HT_.out HW_.out (by kernel_rfl)) (fun _ _ _ h => h) (Or.inl ⟨by rfl, ?_⟩) hHeld ?_ ?_
                                        rotate_left
                                        · rintro w' ⟨s0, s1, s2, s3, s4, s5⟩
                                          go_simp
                                          with_reducible rfl
                                        rotate_left
                                        · simp only [Act.put, List.setIfInBounds_toArray, List.set_cons_zero, List.set_cons_succ, i64_w, i32_w]
                                          rfl
                                        refine one_ (i := 26) (N := some 88) #[true, true, true, true, true, true, true, true, true, true, true, true, true, true, true, true, true, true, true, true, true, true, true, true, true, true, true, true, true, false, false, false, false, false, false, false, false, false, false, false, false, false, false, false, false, false] rfl rfl (one_of HT_.out (by kernel_rfl)) (by decide) (fun K hK => ?_)
                                        refine goes_ Try.func21 (by kernel_rfl) rfl #[.pointer (some ⟨g445, 0, none⟩)] (by rfl) rfl rfl (by (try simp only [List.map_toArray, List.map_cons, List.map_nil]); first | done | rfl | (simp only [List.length_drop, List.length_take]; rfl)) ?_
                                        with_reducible refine (life_Life_Stopped.calls g445 t484 t485 t486 t487 t488 t489 t490 t491 t492 t493 t494 t495 t496 w _ ?side1 ?side2 A47.out).mono ?_
                                        (case side1 => repeat (first | (with_reducible first | exact HI445.out | apply IsS62.alloc | apply IsS62.drewN | apply IsS62.drew | apply IsS62.set_0 | apply IsS62.set_1 | apply IsS62.set_2 | apply IsS62.set_3 | apply IsS62.set_4 | apply IsS62.set_5 | refine IsS62.far ?_ NB445_452.out _ | refine IsS62.far ?_ NB445_468.out _) | exact HI445.out))
                                        (case side2 => repeat (first | (with_reducible first | exact HB.out | apply below_alloc | apply pw_below_drewN | apply below_drew1 | refine below_set ?_ (IsS62.ge HI445.out) | refine below_set ?_ GE452.out | refine below_set ?_ GE468.out) | exact HB.out))
                                        rintro e w68 ⟨rfl, hi, hb, hk⟩
                                        refine ⟨_, rfl, ?_⟩
                                        have n0_ := Aside0.mk (KeepBut.blk hk (g' := gb452) (o := .cells #[.int .i64 t461, .int .i64 t462, .int .i64 t463, .int .i64 t464, .int .i64 t465, .int .i64 t466] 53 (0, 0)) (by (with_reducible repeat (first | refine blk_drewN ?_ _ | refine blk_drew ?_ | refine blk_alloc ?_ _)); exact BK452.out) NB452_445.out (by simp))
                                        have n1_ := Aside0.mk (KeepBut.blk hk (g' := gb468) (o := .cells #[.int .i64 t461, .int .i64 t462, .int .i64 t463, .int .i64 t464, .int .i64 t465, .int .i64 t466] 53 (0, 0)) (by (with_reducible repeat (first | refine blk_drewN ?_ _ | refine blk_drew ?_ | refine blk_alloc ?_ _)); exact BK468.out) NB468_445.out (by simp))
                                        have n2_ := Aside0.mk (hb)
                                        have n3_ := Aside0.mk (hi)
                                        clear BK452
                                        clear BK468
                                        clear HB
                                        clear HI445
                                        have BK452 := n0_
                                        have BK468 := n1_
                                        have HB := n2_
                                        have HI445 := n3_
                                        clear n0_ n1_ n2_ n3_
                                        (try clear hb)
                                        (try clear hb2)
                                        (try clear hk)
                                        (try clear hi)
                                        refine hK.out _ _ ⟨(blk_cell BK452.out 0).trans rfl, (blk_cell BK452.out 1).trans rfl, (blk_cell BK452.out 2).trans rfl, (blk_cell BK452.out 3).trans rfl, (blk_cell BK452.out 4).trans rfl, (blk_cell BK452.out 5).trans rfl⟩ (fun hHeld => ?_)
                                        clear hK K
                                        refine norm_ (a' := ?_) ?_ ?_
                                        rotate_left
                                        · show Act.put _ (some 88) _ = _
                                          simp only [Act.put, List.setIfInBounds_toArray, List.set_cons_zero, List.set_cons_succ, i64_w, i32_w]
                                          rfl
                                        refine pure_ (i := 29) (N := some 91) (v := ?_) (a' := ?_) #[true, true, true, true, true, true, true, true, true, true, true, true, true, true, true, true, true, true, true, true, true, true, true, true, true, true, true, true, true, true, false, false, false, false, false, false, false, false, false, false, false, false, false, false, false, false] rfl rfl (any_of HT_.out (by kernel_rfl)) (fun _ _ _ h => h) (Or.inl ⟨by rfl, ?_⟩) ?_ ?_
                                        rotate_left
                                        · intro w'
                                          go_simp
                                          with_reducible rfl
                                        rotate_left
                                        · simp only [Act.put, List.setIfInBounds_toArray, List.set_cons_zero, List.set_cons_succ, i64_w, i32_w]
                                          rfl
                                        refine pure_ (i := 30) (N := some 92) (v := ?_) (a' := ?_) #[true, true, true, true, true, true, true, true, true, true, true, true, true, true, true, true, true, true, true, true, true, true, true, true, true, true, true, true, true, true, true, false, false, false, false, false, false, false, false, false, false, false, false, false, false, false] rfl rfl (any_of HT_.out (by kernel_rfl)) (fun _ _ _ h => h) (Or.inl ⟨by rfl, ?_⟩) ?_ ?_
                                        rotate_left
                                        · intro w'
                                          go_simp
                                          with_reducible rfl
                                        rotate_left
                                        · simp only [Act.put, List.setIfInBounds_toArray, List.set_cons_zero, List.set_cons_succ, i64_w, i32_w]
                                          rfl
                                        refine pure_ (i := 31) (N := some 93) (v := ?_) (a' := ?_) #[true, true, true, true, true, true, true, true, true, true, true, true, true, true, true, true, true, true, true, true, true, true, true, true, true, true, true, true, true, true, true, true, false, false, false, false, false, false, false, false, false, false, false, false, false, false] rfl rfl (any_of HT_.out (by kernel_rfl)) (fun _ _ _ h => h) (Or.inl ⟨by rfl, ?_⟩) ?_ ?_
                                        rotate_left
                                        · intro w'
                                          go_simp
                                          with_reducible rfl
                                        rotate_left
                                        · simp only [Act.put, List.setIfInBounds_toArray, List.set_cons_zero, List.set_cons_succ, i64_w, i32_w]
                                          rfl
                                        refine pure_ (i := 32) (N := some 94) (v := ?_) (a' := ?_) #[true, true, true, true, true, true, true, true, true, true, true, true, true, true, true, true, true, true, true, true, true, true, true, true, true, true, true, true, true, true, true, true, true, false, false, false, false, false, false, false, false, false, false, false, false, false] rfl rfl (any_of HT_.out (by kernel_rfl)) (fun _ _ _ h => h) (Or.inl ⟨by rfl, ?_⟩) ?_ ?_
                                        rotate_left
                                        · intro w'
                                          go_simp
                                          with_reducible rfl
                                        rotate_left
                                        · simp only [Act.put, List.setIfInBounds_toArray, List.set_cons_zero, List.set_cons_succ, i64_w, i32_w]
                                          rfl
                                        refine pure_ (i := 34) (N := some 96) (v := ?_) (a' := ?_) #[true, true, true, true, true, true, true, true, true, true, true, true, true, true, true, true, true, true, true, true, true, true, true, true, true, true, true, true, true, true, true, true, true, false, true, false, false, false, false, false, false, false, false, false, false, false] rfl rfl (any_of HT_.out (by kernel_rfl)) (fun _ _ _ h => h) (Or.inl ⟨by rfl, ?_⟩) ?_ ?_
                                        rotate_left
                                        · intro w'
                                          go_simp
                                          with_reducible rfl
                                        rotate_left
                                        · simp only [Act.put, List.setIfInBounds_toArray, List.set_cons_zero, List.set_cons_succ, i64_w, i32_w]
                                          rfl
                                        refine take_ (i := 35) (N := some 97) (v := ?_) (a' := ?_) #[true, true, true, true, true, true, true, true, true, true, true, true, true, true, true, true, true, true, true, true, true, true, true, true, true, true, true, true, true, true, true, true, true, false, true, true, false, false, false, false, false, false, false, false, false, false] rfl rfl (take_ofW HT_.out HW_.out (by kernel_rfl)) (fun _ _ _ h => h) (Or.inl ⟨by rfl, ?_⟩) hHeld ?_ ?_
                                        rotate_left
                                        · rintro w' ⟨s0, s1, s2, s3, s4, s5⟩
                                          go_simp
                                          with_reducible rfl
                                        rotate_left
                                        · simp only [Act.put, List.setIfInBounds_toArray, List.set_cons_zero, List.set_cons_succ, i64_w, i32_w]
                                          rfl
                                        refine pure_ (i := 36) (N := some 98) (v := ?_) (a' := ?_) #[true, true, true, true, true, true, true, true, true, true, true, true, true, true, true, true, true, true, true, true, true, true, true, true, true, true, true, true, true, true, true, true, true, false, true, true, true, false, false, false, false, false, false, false, false, false] rfl rfl (any_of HT_.out (by kernel_rfl)) (fun _ _ _ h => h) (Or.inl ⟨by rfl, ?_⟩) ?_ ?_
                                        rotate_left
                                        · intro w'
                                          go_simp
                                          with_reducible rfl
                                        rotate_left
                                        · simp only [Act.put, List.setIfInBounds_toArray, List.set_cons_zero, List.set_cons_succ, i64_w, i32_w]
                                          rfl
                                        refine one_ (i := 33) (N := some 95) #[true, true, true, true, true, true, true, true, true, true, true, true, true, true, true, true, true, true, true, true, true, true, true, true, true, true, true, true, true, true, true, true, true, true, true, true, true, false, false, false, false, false, false, false, false, false] rfl rfl (one_of HT_.out (by kernel_rfl)) (by decide) (fun K hK => ?_)
                                        refine goes_ Try.func42 (by kernel_rfl) rfl #[.pointer (some ⟨g445, 0, none⟩)] (by rfl) rfl rfl (by (try simp only [List.map_toArray, List.map_cons, List.map_nil]); first | done | rfl | (simp only [List.length_drop, List.length_take]; rfl)) ?_
                                        with_reducible refine (life_Life_Final.calls g445 t491 t492 t493 t494 t495 t496 false t498 t499 t500 t501 t502 t503 w _ ?side1 ?side2 A49.out).mono ?_
                                        (case side1 => repeat (first | (with_reducible first | exact HI445.out | apply IsS62.alloc | apply IsS62.drewN | apply IsS62.drew | apply IsS62.set_0 | apply IsS62.set_1 | apply IsS62.set_2 | apply IsS62.set_3 | apply IsS62.set_4 | apply IsS62.set_5 | refine IsS62.far ?_ NB445_452.out _ | refine IsS62.far ?_ NB445_468.out _) | exact HI445.out))
                                        (case side2 => repeat (first | (with_reducible first | exact HB.out | apply below_alloc | apply pw_below_drewN | apply below_drew1 | refine below_set ?_ (IsS62.ge HI445.out) | refine below_set ?_ GE452.out | refine below_set ?_ GE468.out) | exact HB.out))
                                        rintro e w69 ⟨rfl, hi, hb, hk⟩
                                        refine ⟨_, rfl, ?_⟩
                                        have n0_ := Aside0.mk (KeepBut.blk hk (g' := gb452) (o := .cells #[.int .i64 t461, .int .i64 t462, .int .i64 t463, .int .i64 t464, .int .i64 t465, .int .i64 t466] 53 (0, 0)) (by (with_reducible repeat (first | refine blk_drewN ?_ _ | refine blk_drew ?_ | refine blk_alloc ?_ _)); exact BK452.out) NB452_445.out (by simp))
                                        have n1_ := Aside0.mk (KeepBut.blk hk (g' := gb468) (o := .cells #[.int .i64 t461, .int .i64 t462, .int .i64 t463, .int .i64 t464, .int .i64 t465, .int .i64 t466] 53 (0, 0)) (by (with_reducible repeat (first | refine blk_drewN ?_ _ | refine blk_drew ?_ | refine blk_alloc ?_ _)); exact BK468.out) NB468_445.out (by simp))
                                        have n2_ := Aside0.mk (hb)
                                        have n3_ := Aside0.mk (hi)
                                        clear BK452
                                        clear BK468
                                        clear HB
                                        clear HI445
                                        have BK452 := n0_
                                        have BK468 := n1_
                                        have HB := n2_
                                        have HI445 := n3_
                                        clear n0_ n1_ n2_ n3_
                                        (try clear hb)
                                        (try clear hb2)
                                        (try clear hk)
                                        (try clear hi)
                                        refine hK.out _ _ ⟨(blk_cell BK452.out 0).trans rfl, (blk_cell BK452.out 1).trans rfl, (blk_cell BK452.out 2).trans rfl, (blk_cell BK452.out 3).trans rfl, (blk_cell BK452.out 4).trans rfl, (blk_cell BK452.out 5).trans rfl⟩ (fun hHeld => ?_)
                                        clear hK K
                                        refine norm_ (a' := ?_) ?_ ?_
                                        rotate_left
                                        · show Act.put _ (some 95) _ = _
                                          simp only [Act.put, List.setIfInBounds_toArray, List.set_cons_zero, List.set_cons_succ, i64_w, i32_w]
                                          rfl
                                        refine pure_ (i := 37) (N := some 99) (v := ?_) (a' := ?_) #[true, true, true, true, true, true, true, true, true, true, true, true, true, true, true, true, true, true, true, true, true, true, true, true, true, true, true, true, true, true, true, true, true, true, true, true, true, true, false, false, false, false, false, false, false, false] rfl rfl (any_of HT_.out (by kernel_rfl)) (fun _ _ _ h => h) (Or.inl ⟨by rfl, ?_⟩) ?_ ?_
                                        rotate_left
                                        · intro w'
                                          go_simp
                                          with_reducible rfl
                                        rotate_left
                                        · simp only [Act.put, List.setIfInBounds_toArray, List.set_cons_zero, List.set_cons_succ, i64_w, i32_w]
                                          rfl
                                        refine pure_ (i := 38) (N := some 100) (v := ?_) (a' := ?_) #[true, true, true, true, true, true, true, true, true, true, true, true, true, true, true, true, true, true, true, true, true, true, true, true, true, true, true, true, true, true, true, true, true, true, true, true, true, true, true, false, false, false, false, false, false, false] rfl rfl (any_of HT_.out (by kernel_rfl)) (fun _ _ _ h => h) (Or.inl ⟨by rfl, ?_⟩) ?_ ?_
                                        rotate_left
                                        · intro w'
                                          go_simp
                                          with_reducible rfl
                                        rotate_left
                                        · simp only [Act.put, List.setIfInBounds_toArray, List.set_cons_zero, List.set_cons_succ, i64_w, i32_w]
                                          rfl
                                        refine pure_ (i := 39) (N := some 101) (v := ?_) (a' := ?_) #[true, true, true, true, true, true, true, true, true, true, true, true, true, true, true, true, true, true, true, true, true, true, true, true, true, true, true, true, true, true, true, true, true, true, true, true, true, true, true, true, false, false, false, false, false, false] rfl rfl (any_of HT_.out (by kernel_rfl)) (fun _ _ _ h => h) (Or.inl ⟨by rfl, ?_⟩) ?_ ?_
                                        rotate_left
                                        · intro w'
                                          go_simp
                                          with_reducible rfl
                                        rotate_left
                                        · simp only [Act.put, List.setIfInBounds_toArray, List.set_cons_zero, List.set_cons_succ, i64_w, i32_w]
                                          rfl
                                        refine pure_ (i := 40) (N := some 102) (v := ?_) (a' := ?_) #[true, true, true, true, true, true, true, true, true, true, true, true, true, true, true, true, true, true, true, true, true, true, true, true, true, true, true, true, true, true, true, true, true, true, true, true, true, true, true, true, true, false, false, false, false, false] rfl rfl (any_of HT_.out (by kernel_rfl)) (fun _ _ _ h => h) (Or.inl ⟨by rfl, ?_⟩) ?_ ?_
                                        rotate_left
                                        · intro w'
                                          go_simp
                                          with_reducible rfl
                                        rotate_left
                                        · simp only [Act.put, List.setIfInBounds_toArray, List.set_cons_zero, List.set_cons_succ, i64_w, i32_w]
                                          rfl
                                        refine pure_ (i := 41) (N := some 103) (v := ?_) (a' := ?_) #[true, true, true, true, true, true, true, true, true, true, true, true, true, true, true, true, true, true, true, true, true, true, true, true, true, true, true, true, true, true, true, true, true, true, true, true, true, true, true, true, true, true, false, false, false, false] rfl rfl (any_of HT_.out (by kernel_rfl)) (fun _ _ _ h => h) (Or.inl ⟨by rfl, ?_⟩) ?_ ?_
                                        rotate_left
                                        · intro w'
                                          go_simp
                                          with_reducible rfl
                                        rotate_left
                                        · simp only [Act.put, List.setIfInBounds_toArray, List.set_cons_zero, List.set_cons_succ, i64_w, i32_w]
                                          rfl
                                        refine pure_ (i := 43) (N := some 105) (v := ?_) (a' := ?_) #[true, true, true, true, true, true, true, true, true, true, true, true, true, true, true, true, true, true, true, true, true, true, true, true, true, true, true, true, true, true, true, true, true, true, true, true, true, true, true, true, true, true, false, true, false, false] rfl rfl (any_of HT_.out (by kernel_rfl)) (fun _ _ _ h => h) (Or.inl ⟨by rfl, ?_⟩) ?_ ?_
                                        rotate_left
                                        · intro w'
                                          go_simp
                                          with_reducible rfl
                                        rotate_left
                                        · simp only [Act.put, List.setIfInBounds_toArray, List.set_cons_zero, List.set_cons_succ, i64_w, i32_w]
                                          rfl
                                        refine one_ (i := 42) (N := some 104) #[true, true, true, true, true, true, true, true, true, true, true, true, true, true, true, true, true, true, true, true, true, true, true, true, true, true, true, true, true, true, true, true, true, true, true, true, true, true, true, true, true, true, true, true, false, false] rfl rfl (one_of HT_.out (by kernel_rfl)) (by decide) (fun K hK => ?_)
                                        refine goes_ Try.func43 (by kernel_rfl) rfl #[.pointer (some ⟨g445, 0, none⟩), .int .i64 a3] (by rfl) rfl rfl (by (try simp only [List.map_toArray, List.map_cons, List.map_nil]); first | done | rfl | (simp only [List.length_drop, List.length_take]; rfl)) ?_
                                        with_reducible refine (life_Life_Right.calls g445 t498 t499 t500 t501 t502 t503 a3 t511 t512 t513 t514 t515 t516 t517 w _ ?side1 ?side2 A62.out).mono ?_
                                        (case side1 => repeat (first | (with_reducible first | exact HI445.out | apply IsS62.alloc | apply IsS62.drewN | apply IsS62.drew | apply IsS62.set_0 | apply IsS62.set_1 | apply IsS62.set_2 | apply IsS62.set_3 | apply IsS62.set_4 | apply IsS62.set_5 | refine IsS62.far ?_ NB445_452.out _ | refine IsS62.far ?_ NB445_468.out _) | exact HI445.out))
                                        (case side2 => repeat (first | (with_reducible first | exact HB.out | apply below_alloc | apply pw_below_drewN | apply below_drew1 | refine below_set ?_ (IsS62.ge HI445.out) | refine below_set ?_ GE452.out | refine below_set ?_ GE468.out) | exact HB.out))
                                        rintro e w70 ⟨rfl, hi, hb, hk⟩
                                        refine ⟨_, rfl, ?_⟩
                                        have n0_ := Aside0.mk (KeepBut.blk hk (g' := gb452) (o := .cells #[.int .i64 t461, .int .i64 t462, .int .i64 t463, .int .i64 t464, .int .i64 t465, .int .i64 t466] 53 (0, 0)) (by (with_reducible repeat (first | refine blk_drewN ?_ _ | refine blk_drew ?_ | refine blk_alloc ?_ _)); exact BK452.out) NB452_445.out (by simp))
                                        have n1_ := Aside0.mk (KeepBut.blk hk (g' := gb468) (o := .cells #[.int .i64 t461, .int .i64 t462, .int .i64 t463, .int .i64 t464, .int .i64 t465, .int .i64 t466] 53 (0, 0)) (by (with_reducible repeat (first | refine blk_drewN ?_ _ | refine blk_drew ?_ | refine blk_alloc ?_ _)); exact BK468.out) NB468_445.out (by simp))
                                        have n2_ := Aside0.mk (hb)
                                        have n3_ := Aside0.mk (hi)
                                        clear BK452
                                        clear BK468
                                        clear HB
                                        clear HI445
                                        have BK452 := n0_
                                        have BK468 := n1_
                                        have HB := n2_
                                        have HI445 := n3_
                                        clear n0_ n1_ n2_ n3_
                                        (try clear hb)
                                        (try clear hb2)
                                        (try clear hk)
                                        (try clear hi)
                                        refine hK.out _ _ ⟨(blk_cell BK452.out 0).trans rfl, (blk_cell BK452.out 1).trans rfl, (blk_cell BK452.out 2).trans rfl, (blk_cell BK452.out 3).trans rfl, (blk_cell BK452.out 4).trans rfl, (blk_cell BK452.out 5).trans rfl⟩ (fun hHeld => ?_)
                                        clear hK K
                                        refine norm_ (a' := ?_) ?_ ?_
                                        rotate_left
                                        · show Act.put _ (some 104) _ = _
                                          simp only [Act.put, List.setIfInBounds_toArray, List.set_cons_zero, List.set_cons_succ, i64_w, i32_w]
                                          rfl
                                        refine pure_ (i := 44) (N := some 106) (v := ?_) (a' := ?_) #[true, true, true, true, true, true, true, true, true, true, true, true, true, true, true, true, true, true, true, true, true, true, true, true, true, true, true, true, true, true, true, true, true, true, true, true, true, true, true, true, true, true, true, true, true, false] rfl rfl (any_of HT_.out (by kernel_rfl)) (fun _ _ _ h => h) (Or.inl ⟨by rfl, ?_⟩) ?_ ?_
                                        rotate_left
                                        · intro w'
                                          go_simp
                                          with_reducible rfl
                                        rotate_left
                                        · simp only [Act.put, List.setIfInBounds_toArray, List.set_cons_zero, List.set_cons_succ, i64_w, i32_w]
                                          rfl
                                        refine pure_ (i := 45) (N := some 107) (v := ?_) (a' := ?_) #[true, true, true, true, true, true, true, true, true, true, true, true, true, true, true, true, true, true, true, true, true, true, true, true, true, true, true, true, true, true, true, true, true, true, true, true, true, true, true, true, true, true, true, true, true, true] rfl rfl (any_of HT_.out (by kernel_rfl)) (fun _ _ _ h => h) (Or.inl ⟨by rfl, ?_⟩) ?_ ?_
                                        rotate_left
                                        · intro w'
                                          go_simp
                                          with_reducible rfl
                                        rotate_left
                                        · simp only [Act.put, List.setIfInBounds_toArray, List.set_cons_zero, List.set_cons_succ, i64_w, i32_w]
                                          rfl
                                        refine done_ (done_of HT_.out (by kernel_rfl)) ?_
                                        try go_wp2
                                        go_roundg kj37
                                        case measure => have := HK1.out; have := HJ13.out; have := HJ20.out; have := HJ37.out; omega
                                        case rel => exact ⟨(wrap64 (x12_1 + 1)), (t512), (t513), (t514), (t515), (t516), (t517), (t461), (t462), (t463), (t464), (t465), (t466), (by first | rfl | (simp; done) | (simp [*]; done)), H', ⟨by have := HK1.out; have := HJ13.out; have := HJ20.out; have := HJ37.out; omega⟩, ⟨by (with_reducible repeat (first | refine blk_drewN ?_ _ | refine blk_drew ?_ | refine blk_alloc ?_ _)); exact BK452.out⟩, ⟨by repeat (first | (with_reducible first | exact HI445.out | apply IsS62.alloc | apply IsS62.drewN | apply IsS62.drew | apply IsS62.set_0 | apply IsS62.set_1 | apply IsS62.set_2 | apply IsS62.set_3 | apply IsS62.set_4 | apply IsS62.set_5 | refine IsS62.far ?_ NB445_452.out _ | refine IsS62.far ?_ NB445_468.out _) | exact HI445.out)⟩, ⟨by repeat (first | (with_reducible first | exact HB.out | apply below_alloc | apply pw_below_drewN | apply below_drew1 | refine below_set ?_ (IsS62.ge HI445.out) | refine below_set ?_ GE452.out | refine below_set ?_ GE468.out) | exact HB.out)⟩⟩
                                      · rw [if_neg c63] at H
                                        have c63b0 : (t511 == x17_37) = false := beq_eq_false_iff_ne.mpr c63
                                        have c63b1 : (t511 != x17_37) = true := bne_iff_ne.mpr c63
                                        exact absurd H (by simp)
                                · rw [if_neg c48] at H
                                  have c48b0 : (t490 == t466) = false := beq_eq_false_iff_ne.mpr c48
                                  have c48b1 : (t490 != t466) = true := bne_iff_ne.mpr c48
                                  exact absurd H (by simp)
                              · rw [if_neg c46] at H
                                have c46b0 : (t483 == t465) = false := beq_eq_false_iff_ne.mpr c46
                                have c46b1 : (t483 != t465) = true := bne_iff_ne.mpr c46
                                exact absurd H (by simp)
                            · rw [if_neg c44] at H
                              have c44b0 : (t476 == t464) = false := beq_eq_false_iff_ne.mpr c44
                              have c44b1 : (t476 != t464) = true := bne_iff_ne.mpr c44
                              exact absurd H (by simp)
                          · rw [if_neg c42] at H
                            have c42b0 : (t469 == t463) = false := beq_eq_false_iff_ne.mpr c42
                            have c42b1 : (t469 != t463) = true := bne_iff_ne.mpr c42
                            exact absurd H (by simp)
                        · rw [if_neg c40] at H
                          have c40b0 : (t454 == t467) = false := beq_eq_false_iff_ne.mpr c40
                          have c40b1 : (t454 != t467) = true := bne_iff_ne.mpr c40
                          exact absurd H (by simp)
              · rw [if_neg c18] at H
                exact absurd H (by simp)
            · rw [if_neg c17] at H
              exact absurd H (by simp)
          · replace c16 := Bool.eq_false_iff.mpr c16
            subst c16
            have H1 : (some t438) = some true := by rw [if_neg (show ¬ (false = true) by decide)] at H; exact H
            clear H
            have H := H1
            clear H1
            have HT_ := Option.some.inj H
            clear H
            go_wp2
            go_ret
            exact ⟨by first | rfl | (simp [errW_none, errW_some] <;> rfl) | (simp [*, errW_none, errW_some] <;> rfl), by repeat (first | (with_reducible first | exact HB.out | apply below_alloc | apply pw_below_drewN | apply below_drew1 | refine below_set ?_ (IsS62.ge HI445.out) | refine below_set ?_ GE452.out) | exact HB.out)⟩

/-- THE ONE PURE STATEMENT of millwrightlaw09_LifeTells: yours. -/
def millwrightlaw09_LifeTells.Pure : Prop := ∀ (a0 : Int) (a1 : Int) (l2 : List Int) (a3 : Int), (Lit.int .i64 a0).wf = true → (Lit.int .i64 a1).wf = true → l2.length ≤ maxLen → l2.length * 1 ≤ 140737488351232 → (∀ x ∈ l2, (Lit.int .u8 x).wf = true) → (Lit.int .i64 a3).wf = true → ∃ k, millwrightlaw09_LifeTells.f k a0 a1 l2 a3 = some true
theorem millwrightlaw09_LifeTells.walk (P : millwrightlaw09_LifeTells.Pure) (a0 : Int) (a1 : Int) (a2 : Option Addr) (len2 cap2 : Nat) (z2 : List Int) (a3 : Int) (w : World) (w0 : (Lit.int .i64 a0).wf = true) (w1 : (Lit.int .i64 a1).wf = true) (w2 : (a2 = none ∧ len2 = 0 ∧ cap2 = 0 ∧ z2 = []) ∨ ∃ x, a2 = some x ∧ len2 ≤ cap2 ∧ cap2 ≤ maxLen ∧ z2.length = cap2 ∧ (∀ i, i < z2.length → w.cell? (x.add i) = some (.int .u8 (z2.getD i 0))) ∧ ∀ n ∈ z2, (Lit.int .u8 n).wf = true) (y2 : len2 * 1 ≤ 140737488351232) (w3 : (Lit.int .i64 a3).wf = true) :
    Calls Try.prog 11 #[.int .i64 a0, .int .i64 a1, .slice a2 len2 cap2, .int .i64 a3] w fun e w' => e = .returned (.bool true) ∧ Below w.heap.size w w' := by
  obtain ⟨l2, rfl, hr2, hm2, hw2, hc2⟩ := ReadsInt.ofRowC w2
  obtain ⟨k, h⟩ := P a0 a1 l2 a3 w0 w1 hm2 y2 hw2 w3
  refine (millwrightlaw09_LifeTells.calls k a0 a1 _ _ l2 a3 w (Kd.C_of_reads (d := (0 : Int)) (h1 := fun _ => rfl) hr2) hc2 h).mono ?_
  rintro e w' ⟨rfl, hd⟩
  exact ⟨rfl, hd⟩

end Go.Proofs.Ytkldfjlbgmppfab.MLifeTells
