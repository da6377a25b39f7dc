-- Written by a program of this session out of Lean's own print of the program. Not trusted: Lean checks it.
import Derived.Test.YtkldfjlbgmppfaaMLifeFailsx0
import Derived.Test.YtkldfjlbgmppfaaMLifeFailsx1
import Derived.Test.YtkldfjlbgmppfaaMLifeFailsx2
namespace Go.Proofs.Ytkldfjlbgmppfaa.MLifeFails
open Go.RowKit Go.Proofs.YtkldfjlbgmppfaaW.PrintWords Go.Proofs.YtkldfjlbgmppfaaW.PrintLast Go.Proofs.YtkldfjlbgmppfaaW.PrintMore
attribute [local go_sem] max2_int min2_int max_two min_two max_three min_three max_four min_four   -- for this text's walks alone
set_option linter.unusedVariables false
set_option linter.unusedSimpArgs false

/-! ### millwrightlaw09_LifeFails: function 12 -/
mutual
def millwrightlaw09_LifeFails.l0 : Nat → Int → List Bool → Bool → Int → Int → Int → Int → Int → Int → Int → Int → Option (Bool)
  | 0, _, _, _, _, _, _, _, _, _, _, _ => none
  | k + 1, x0, x1, x5, x7, x8, x299000, x299001, x299002, x299003, x299004, x299005 => if x8 ≤ x0 then ((life_Life_Start.f k x299000 x299001 x299002 x299003 x299004 x299005).bind fun bt306 => (if bt306.1 = 0 then (if (wrap64 (x8 - 1)) < (x1.length : Int) then (if 0 ≤ (wrap64 (x8 - 1)) then (millwrightlaw09_LifeFails.j1 k x0 x1 x5 x7 x8 (rdOf false x1 (wrap64 (x8 - 1))) bt306.2.1 bt306.2.2.1 bt306.2.2.2.1 bt306.2.2.2.2.1 bt306.2.2.2.2.2.1 bt306.2.2.2.2.2.2) else (none)) else (millwrightlaw09_LifeFails.j1 k x0 x1 x5 x7 x8 false bt306.2.1 bt306.2.2.1 bt306.2.2.2.1 bt306.2.2.2.2.1 bt306.2.2.2.2.2.1 bt306.2.2.2.2.2.2)) else (some false))) else (if x5 = true then ((life_Life_Missed.f x299000 x299001 x299002 x299003 x299004 x299005).bind fun bt370 => (if bt370.1 = x0 then ((life_Life_Stopped.f bt370.2.1 bt370.2.2.1 bt370.2.2.2.1 bt370.2.2.2.2.1 bt370.2.2.2.2.2.1 bt370.2.2.2.2.2.2).bind fun bt377 => (if bt377.1 = x7 then ((life_Life_Epoch.f bt377.2.1 bt377.2.2.1 bt377.2.2.2.1 bt377.2.2.2.2.1 bt377.2.2.2.2.2.1 bt377.2.2.2.2.2.2).bind fun bt384 => (if bt384.1 = (wrap64 (x0 + x7)) then ((life_Life_Final.f bt384.2.1 bt384.2.2.1 bt384.2.2.2.1 bt384.2.2.2.2.1 bt384.2.2.2.2.2.1 bt384.2.2.2.2.2.2).bind fun bt391 => (some bt391.1)) else (some false))) else (some false))) else (some false))) else (some false))
def millwrightlaw09_LifeFails.j1 : Nat → Int → List Bool → Bool → Int → Int → Bool → Int → Int → Int → Int → Int → Int → Option (Bool)
  | 0, _, _, _, _, _, _, _, _, _, _, _, _ => none
  | k + 1, x0, x1, x5, x7, x8, x42, x299000, x299001, x299002, x299003, x299004, x299005 => if x42 = true then ((life_Life_Stop.f k x299000 x299001 x299002 x299003 x299004 x299005).bind fun bt314 => (if bt314.1 = 0 then ((life_Life_Start.f k bt314.2.1 bt314.2.2.1 bt314.2.2.2.1 bt314.2.2.2.2.1 bt314.2.2.2.2.2.1 bt314.2.2.2.2.2.2).bind fun bt321 => (if bt321.1 = 0 then (millwrightlaw09_LifeFails.j2 k x0 x1 x5 (wrap64 (x7 + 1)) x8 bt321.2.1 bt321.2.2.1 bt321.2.2.2.1 bt321.2.2.2.2.1 bt321.2.2.2.2.2.1 bt321.2.2.2.2.2.2) else (some false))) else (some false))) else (millwrightlaw09_LifeFails.j2 k x0 x1 x5 x7 x8 x299000 x299001 x299002 x299003 x299004 x299005)
def millwrightlaw09_LifeFails.j2 : Nat → Int → List Bool → Bool → Int → Int → Int → Int → Int → Int → Int → Int → Option (Bool)
  | 0, _, _, _, _, _, _, _, _, _, _, _ => none
  | k + 1, x0, x1, x5, x7, x8, x299000, x299001, x299002, x299003, x299004, x299005 => (life_Life_Miss.f k x299000 x299001 x299002 x299003 x299004 x299005).bind fun bt328 => (if bt328.1 = 0 then ((life_Life_State.f bt328.2.1 bt328.2.2.1 bt328.2.2.2.1 bt328.2.2.2.2.1 bt328.2.2.2.2.2.1 bt328.2.2.2.2.2.2).bind fun bt335 => (if bt335.1 = 6 then (if x8 = x0 then (if x8 < x0 then ((life_Life_State.f bt335.2.1 bt335.2.2.1 bt335.2.2.2.1 bt335.2.2.2.2.1 bt335.2.2.2.2.2.1 bt335.2.2.2.2.2.2).bind fun bt342 => (if bt342.1 = 4 then ((life_Life_Rested.f k bt342.2.1 bt342.2.2.1 bt342.2.2.2.1 bt342.2.2.2.2.1 bt342.2.2.2.2.2.1 bt342.2.2.2.2.2.2).bind fun bt349 => (if bt349.1 = 0 then (millwrightlaw09_LifeFails.l0 k x0 x1 x5 x7 (wrap64 (x8 + 1)) bt349.2.1 bt349.2.2.1 bt349.2.2.2.1 bt349.2.2.2.2.1 bt349.2.2.2.2.2.1 bt349.2.2.2.2.2.2) else (some false))) else (some false))) else (millwrightlaw09_LifeFails.l0 k x0 x1 x5 x7 (wrap64 (x8 + 1)) bt335.2.1 bt335.2.2.1 bt335.2.2.2.1 bt335.2.2.2.2.1 bt335.2.2.2.2.2.1 bt335.2.2.2.2.2.2)) else (some false)) else (if x8 = x0 then (some false) else (if x8 < x0 then ((life_Life_State.f bt335.2.1 bt335.2.2.1 bt335.2.2.2.1 bt335.2.2.2.2.1 bt335.2.2.2.2.2.1 bt335.2.2.2.2.2.2).bind fun bt356 => (if bt356.1 = 4 then ((life_Life_Rested.f k bt356.2.1 bt356.2.2.1 bt356.2.2.2.1 bt356.2.2.2.2.1 bt356.2.2.2.2.2.1 bt356.2.2.2.2.2.2).bind fun bt363 => (if bt363.1 = 0 then (millwrightlaw09_LifeFails.l0 k x0 x1 x5 x7 (wrap64 (x8 + 1)) bt363.2.1 bt363.2.2.1 bt363.2.2.2.1 bt363.2.2.2.2.1 bt363.2.2.2.2.2.1 bt363.2.2.2.2.2.2) else (some false))) else (some false))) else (millwrightlaw09_LifeFails.l0 k x0 x1 x5 x7 (wrap64 (x8 + 1)) bt335.2.1 bt335.2.2.1 bt335.2.2.2.1 bt335.2.2.2.2.1 bt335.2.2.2.2.2.1 bt335.2.2.2.2.2.2))))) else (some false))
end
def millwrightlaw09_LifeFails.f (k : Nat) (a0 : Int) (l1 : List Bool) : Option (Bool) := (millwrightlaw09_shown.f k).bind fun t291 => ((life_New.f (wrap64 (1 + (Int.tmod (Go.bits .and .i64 a0 65535) 100))) 100).bind fun bt292 => ((life_Life_Want.f k bt292.1 bt292.2.1 bt292.2.2.1 bt292.2.2.2.1 bt292.2.2.2.2.1 bt292.2.2.2.2.2).bind fun bt299 => (if bt299.1 = 0 then (millwrightlaw09_LifeFails.l0 k (wrap64 (1 + (Int.tmod (Go.bits .and .i64 a0 65535) 100))) l1 t291 0 1 bt299.2.1 bt299.2.2.1 bt299.2.2.2.1 bt299.2.2.2.2.1 bt299.2.2.2.2.2.1 bt299.2.2.2.2.2.2) else (some false))))
theorem millwrightlaw09_LifeFails.mono_l : ∀ k, (∀ y0 y1 y2 y3 y4 y5 y6 y7 y8 y9 y10, LeO (millwrightlaw09_LifeFails.l0 k y0 y1 y2 y3 y4 y5 y6 y7 y8 y9 y10) (millwrightlaw09_LifeFails.l0 (k + 1) y0 y1 y2 y3 y4 y5 y6 y7 y8 y9 y10)) ∧ (∀ y0 y1 y2 y3 y4 y5 y6 y7 y8 y9 y10 y11, LeO (millwrightlaw09_LifeFails.j1 k y0 y1 y2 y3 y4 y5 y6 y7 y8 y9 y10 y11) (millwrightlaw09_LifeFails.j1 (k + 1) y0 y1 y2 y3 y4 y5 y6 y7 y8 y9 y10 y11)) ∧ (∀ y0 y1 y2 y3 y4 y5 y6 y7 y8 y9 y10, LeO (millwrightlaw09_LifeFails.j2 k y0 y1 y2 y3 y4 y5 y6 y7 y8 y9 y10) (millwrightlaw09_LifeFails.j2 (k + 1) y0 y1 y2 y3 y4 y5 y6 y7 y8 y9 y10))
  | 0 => ⟨fun _ _ _ _ _ _ _ _ _ _ _ r h => by simp [millwrightlaw09_LifeFails.l0] at h, fun _ _ _ _ _ _ _ _ _ _ _ _ r h => by simp [millwrightlaw09_LifeFails.j1] at h, fun _ _ _ _ _ _ _ _ _ _ _ r h => by simp [millwrightlaw09_LifeFails.j2] at h⟩
  | k + 1 => by
    obtain ⟨ih0, ih1, ih2⟩ := millwrightlaw09_LifeFails.mono_l k
    refine ⟨?_, ?_, ?_⟩
    · intro y0 y1 y2 y3 y4 y5 y6 y7 y8 y9 y10
      unfold millwrightlaw09_LifeFails.l0
      repeat' first
      | (with_reducible exact ih0 _ _ _ _ _ _ _ _ _ _ _)
      | (with_reducible exact ih1 _ _ _ _ _ _ _ _ _ _ _ _)
      | (with_reducible exact ih2 _ _ _ _ _ _ _ _ _ _ _)
      | (with_reducible exact life_Life_Miss.mono _ _ _ _ _ _ _)
      | (with_reducible exact life_Life_Rested.mono _ _ _ _ _ _ _)
      | (with_reducible exact life_Life_Start.mono _ _ _ _ _ _ _)
      | (with_reducible exact life_Life_Stop.mono _ _ _ _ _ _ _)
      | (with_reducible exact life_Life_Want.mono _ _ _ _ _ _ _)
      | (with_reducible exact millwrightlaw09_shown.mono _)
      | (with_reducible exact LeO.refl _)
      | (with_reducible exact LeO.none _)
      | (with_reducible refine LeO.ite ?_ ?_)
      | (with_reducible refine LeO.bind ?_ (fun _ => ?_))
      | exact ih0 _ _ _ _ _ _ _ _ _ _ _
      | exact ih1 _ _ _ _ _ _ _ _ _ _ _ _
      | exact ih2 _ _ _ _ _ _ _ _ _ _ _
      | exact life_Life_Miss.mono _ _ _ _ _ _ _
      | exact life_Life_Rested.mono _ _ _ _ _ _ _
      | exact life_Life_Start.mono _ _ _ _ _ _ _
      | exact life_Life_Stop.mono _ _ _ _ _ _ _
      | exact life_Life_Want.mono _ _ _ _ _ _ _
      | exact millwrightlaw09_shown.mono _
      | exact LeO.none _
      | refine LeO.ite ?_ ?_
      | refine LeO.bind ?_ (fun _ => ?_)
    · intro y0 y1 y2 y3 y4 y5 y6 y7 y8 y9 y10 y11
      unfold millwrightlaw09_LifeFails.j1
      repeat' first
      | (with_reducible exact ih0 _ _ _ _ _ _ _ _ _ _ _)
      | (with_reducible exact ih1 _ _ _ _ _ _ _ _ _ _ _ _)
      | (with_reducible exact ih2 _ _ _ _ _ _ _ _ _ _ _)
      | (with_reducible exact life_Life_Miss.mono _ _ _ _ _ _ _)
      | (with_reducible exact life_Life_Rested.mono _ _ _ _ _ _ _)
      | (with_reducible exact life_Life_Start.mono _ _ _ _ _ _ _)
      | (with_reducible exact life_Life_Stop.mono _ _ _ _ _ _ _)
      | (with_reducible exact life_Life_Want.mono _ _ _ _ _ _ _)
      | (with_reducible exact millwrightlaw09_shown.mono _)
      | (with_reducible exact LeO.refl _)
      | (with_reducible exact LeO.none _)
      | (with_reducible refine LeO.ite ?_ ?_)
      | (with_reducible refine LeO.bind ?_ (fun _ => ?_))
      | exact ih0 _ _ _ _ _ _ _ _ _ _ _
      | exact ih1 _ _ _ _ _ _ _ _ _ _ _ _
      | exact ih2 _ _ _ _ _ _ _ _ _ _ _
      | exact life_Life_Miss.mono _ _ _ _ _ _ _
      | exact life_Life_Rested.mono _ _ _ _ _ _ _
      | exact life_Life_Start.mono _ _ _ _ _ _ _
      | exact life_Life_Stop.mono _ _ _ _ _ _ _
      | exact life_Life_Want.mono _ _ _ _ _ _ _
      | exact millwrightlaw09_shown.mono _
      | exact LeO.none _
      | refine LeO.ite ?_ ?_
      | refine LeO.bind ?_ (fun _ => ?_)
    · intro y0 y1 y2 y3 y4 y5 y6 y7 y8 y9 y10
      unfold millwrightlaw09_LifeFails.j2
      repeat' first
      | (with_reducible exact ih0 _ _ _ _ _ _ _ _ _ _ _)
      | (with_reducible exact ih1 _ _ _ _ _ _ _ _ _ _ _ _)
      | (with_reducible exact ih2 _ _ _ _ _ _ _ _ _ _ _)
      | (with_reducible exact life_Life_Miss.mono _ _ _ _ _ _ _)
      | (with_reducible exact life_Life_Rested.mono _ _ _ _ _ _ _)
      | (with_reducible exact life_Life_Start.mono _ _ _ _ _ _ _)
      | (with_reducible exact life_Life_Stop.mono _ _ _ _ _ _ _)
      | (with_reducible exact life_Life_Want.mono _ _ _ _ _ _ _)
      | (with_reducible exact millwrightlaw09_shown.mono _)
      | (with_reducible exact LeO.refl _)
      | (with_reducible exact LeO.none _)
      | (with_reducible refine LeO.ite ?_ ?_)
      | (with_reducible refine LeO.bind ?_ (fun _ => ?_))
      | exact ih0 _ _ _ _ _ _ _ _ _ _ _
      | exact ih1 _ _ _ _ _ _ _ _ _ _ _ _
      | exact ih2 _ _ _ _ _ _ _ _ _ _ _
      | exact life_Life_Miss.mono _ _ _ _ _ _ _
      | exact life_Life_Rested.mono _ _ _ _ _ _ _
      | exact life_Life_Start.mono _ _ _ _ _ _ _
      | exact life_Life_Stop.mono _ _ _ _ _ _ _
      | exact life_Life_Want.mono _ _ _ _ _ _ _
      | exact millwrightlaw09_shown.mono _
      | exact LeO.none _
      | refine LeO.ite ?_ ?_
      | refine LeO.bind ?_ (fun _ => ?_)
theorem millwrightlaw09_LifeFails.mono : ∀ a0 a1 k, LeO (millwrightlaw09_LifeFails.f k a0 a1) (millwrightlaw09_LifeFails.f (k + 1) a0 a1) := by
  intro a0 a1 k
  obtain ⟨ih0, ih1, ih2⟩ := millwrightlaw09_LifeFails.mono_l k
  unfold millwrightlaw09_LifeFails.f
  repeat' first
      | (with_reducible exact ih0 _ _ _ _ _ _ _ _ _ _ _)
      | (with_reducible exact ih1 _ _ _ _ _ _ _ _ _ _ _ _)
      | (with_reducible exact ih2 _ _ _ _ _ _ _ _ _ _ _)
      | (with_reducible exact life_Life_Miss.mono _ _ _ _ _ _ _)
      | (with_reducible exact life_Life_Rested.mono _ _ _ _ _ _ _)
      | (with_reducible exact life_Life_Start.mono _ _ _ _ _ _ _)
      | (with_reducible exact life_Life_Stop.mono _ _ _ _ _ _ _)
      | (with_reducible exact life_Life_Want.mono _ _ _ _ _ _ _)
      | (with_reducible exact millwrightlaw09_shown.mono _)
      | (with_reducible exact LeO.refl _)
      | (with_reducible exact LeO.none _)
      | (with_reducible refine LeO.ite ?_ ?_)
      | (with_reducible refine LeO.bind ?_ (fun _ => ?_))
      | exact ih0 _ _ _ _ _ _ _ _ _ _ _
      | exact ih1 _ _ _ _ _ _ _ _ _ _ _ _
      | exact ih2 _ _ _ _ _ _ _ _ _ _ _
      | exact life_Life_Miss.mono _ _ _ _ _ _ _
      | exact life_Life_Rested.mono _ _ _ _ _ _ _
      | exact life_Life_Start.mono _ _ _ _ _ _ _
      | exact life_Life_Stop.mono _ _ _ _ _ _ _
      | exact life_Life_Want.mono _ _ _ _ _ _ _
      | exact millwrightlaw09_shown.mono _
      | exact LeO.none _
      | refine LeO.ite ?_ ?_
      | refine LeO.bind ?_ (fun _ => ?_)
set_option maxHeartbeats 8000000 in
set_option maxRecDepth 100000 in
theorem millwrightlaw09_LifeFails.calls (k : Nat) (a0 : Int) (A1 : Option Addr) (c1 : Nat) (l1 : List Bool) (w : World) (hr1 : Kd.C Kd.bool w A1 l1.length l1) (hc1 : l1.length ≤ c1) (h : millwrightlaw09_LifeFails.f k a0 l1 = some true) :
    Calls Try.prog 12 #[.int .i64 a0, .slice A1 l1.length c1] w fun e w' => e = .returned (.bool true) ∧ Below w.heap.size w w' := by
  have HR1 := Aside0.mk hr1
  have HC1 := Aside0.mk hc1
  clear hr1 hc1
  have HB := Aside0.mk (Below.refl w.heap.size w)
  have H : ((millwrightlaw09_shown.f k).bind fun t291 => ((life_New.f (wrap64 (1 + (Int.tmod (Go.bits .and .i64 a0 65535) 100))) 100).bind fun bt292 => ((life_Life_Want.f k bt292.1 bt292.2.1 bt292.2.2.1 bt292.2.2.2.1 bt292.2.2.2.2.1 bt292.2.2.2.2.2).bind fun bt299 => (if bt299.1 = 0 then (millwrightlaw09_LifeFails.l0 k (wrap64 (1 + (Int.tmod (Go.bits .and .i64 a0 65535) 100))) l1 t291 0 1 bt299.2.1 bt299.2.2.1 bt299.2.2.2.1 bt299.2.2.2.2.1 bt299.2.2.2.2.2.1 bt299.2.2.2.2.2.2) else (some false))))) = some true := h
  clear h
  replace H := Option.bind_eq_some_iff.mp H
  obtain ⟨t291, A30, H⟩ := H
  replace H : ((life_New.f (wrap64 (1 + (Int.tmod (Go.bits .and .i64 a0 65535) 100))) 100).bind fun bt292 => ((life_Life_Want.f k bt292.1 bt292.2.1 bt292.2.2.1 bt292.2.2.2.1 bt292.2.2.2.2.1 bt292.2.2.2.2.2).bind fun bt299 => (if bt299.1 = 0 then (millwrightlaw09_LifeFails.l0 k (wrap64 (1 + (Int.tmod (Go.bits .and .i64 a0 65535) 100))) l1 t291 0 1 bt299.2.1 bt299.2.2.1 bt299.2.2.2.1 bt299.2.2.2.2.1 bt299.2.2.2.2.2.1 bt299.2.2.2.2.2.2) else (some false)))) = some true := H
  have A3 := Aside0.mk A30
  clear A30
  replace H := Option.bind_eq_some_iff.mp H
  obtain ⟨⟨t292, t293, t294, t295, t296, t297⟩, A40, H⟩ := H
  replace H : ((life_Life_Want.f k t292 t293 t294 t295 t296 t297).bind fun bt299 => (if bt299.1 = 0 then (millwrightlaw09_LifeFails.l0 k (wrap64 (1 + (Int.tmod (Go.bits .and .i64 a0 65535) 100))) l1 t291 0 1 bt299.2.1 bt299.2.2.1 bt299.2.2.2.1 bt299.2.2.2.2.1 bt299.2.2.2.2.2.1 bt299.2.2.2.2.2.2) else (some false))) = some true := H
  have A4 := Aside0.mk A40
  clear A40
  replace H := Option.bind_eq_some_iff.mp H
  obtain ⟨⟨t299, t300, t301, t302, t303, t304, t305⟩, A50, H⟩ := H
  replace H : (if t299 = 0 then (millwrightlaw09_LifeFails.l0 k (wrap64 (1 + (Int.tmod (Go.bits .and .i64 a0 65535) 100))) l1 t291 0 1 t300 t301 t302 t303 t304 t305) else (some false)) = some true := H
  have A5 := Aside0.mk A50
  clear A50
  by_cases c6 : t299 = 0
  · rw [if_pos c6] at H
    have c6b0 : (t299 == 0) = true := beq_iff_eq.mpr c6
    have c6b1 : (t299 != 0) = false := bne_eq_false_iff_eq.mpr c6
    clear c6
    have H' := Aside0.mk H
    clear H
    go_enter Try.func12, Try.ntmps12
    go_wp2_with (first | ((with_reducible refine gate_callee (f := 31) rfl ?_); refine goesL_ (some 9) rfl rfl Try.func31 (by kernel_rfl) rfl #[] rfl (by (try simp only [List.map_toArray, List.map_cons, List.map_nil]); first | done | rfl | (simp only [List.length_drop, List.length_take]; rfl)) ?_; (with_reducible refine (millwrightlaw09_shown.calls k  t291 _ A3.out).mono ?_); rintro e w7 ⟨rfl, hb⟩; refine ⟨_, rfl, ?_⟩; have n0_ := Aside0.mk (below_step (by repeat (first | (with_reducible first | exact HB.out | apply below_alloc | apply pw_below_drewN | apply below_drew1) | exact HB.out)) hb); clear HB; have HB := n0_; clear n0_; (try clear hb); (try clear hb2); (try clear hk); (try clear hi)) | ((with_reducible refine gate_callee (f := 32) rfl ?_); refine goesL_ (some 15) rfl rfl Try.func32 (by kernel_rfl) rfl #[.int .i64 (wrap64 (1 + (Int.tmod (Go.bits .and .i64 a0 65535) 100))), .int .i64 100] rfl (by (try simp only [List.map_toArray, List.map_cons, List.map_nil]); first | done | rfl | (simp only [List.length_drop, List.length_take]; rfl)) ?_; (with_reducible refine (life_New.calls (wrap64 (1 + (Int.tmod (Go.bits .and .i64 a0 65535) 100))) 100 t292 t293 t294 t295 t296 t297 w _ ?side1 A4.out).mono ?_); (case side1 => repeat (first | (with_reducible first | exact HB.out | apply below_alloc | apply pw_below_drewN | apply below_drew1) | exact HB.out)); rintro e w8 ⟨g298, rfl, hi, hb, hb2⟩; refine ⟨_, rfl, ?_⟩; have n0_ := Aside0.mk (hb); have n1_ := Aside0.mk (hi); clear HB; have HB := n0_; have HI298 := n1_; clear n0_ n1_; (try clear hb); (try clear hb2); (try clear hk); (try clear hi)) | (go_at_call 33; (with_reducible refine (life_Life_Want.calls k g298 t292 t293 t294 t295 t296 t297 t299 t300 t301 t302 t303 t304 t305 w _ ?side1 ?side2 A5.out).mono ?_); (case side1 => repeat (first | (with_reducible first | exact HI298.out | apply IsS79.alloc | apply IsS79.drewN | apply IsS79.drew | apply IsS79.set_0 | apply IsS79.set_1 | apply IsS79.set_2 | apply IsS79.set_3 | apply IsS79.set_4 | apply IsS79.set_5) | exact HI298.out)); (case side2 => repeat (first | (with_reducible first | exact HB.out | apply below_alloc | apply pw_below_drewN | apply below_drew1 | refine below_set ?_ (IsS79.ge HI298.out)) | exact HB.out)); rintro e w9 ⟨rfl, hi, hb, hk⟩; have n0_ := Aside0.mk (hb); have n1_ := Aside0.mk (hi); clear HB; clear HI298; have HB := n0_; have HI298 := n1_; clear n0_ n1_; (try clear hb); (try clear hb2); (try clear hk); (try clear hi)))
    go_loopg [7, 8] k (fun kq v7 v8 w' => ∃ (x7_1 : Int) (x8_1 : Int) (x299000_1 : Int) (x299001_1 : Int) (x299002_1 : Int) (x299003_1 : Int) (x299004_1 : Int) (x299005_1 : Int), v7 = .int .i64 x7_1 ∧ v8 = .int .i64 x8_1 ∧ Aside0 (millwrightlaw09_LifeFails.l0 kq (wrap64 (1 + (Int.tmod (Go.bits .and .i64 a0 65535) 100))) l1 t291 x7_1 x8_1 x299000_1 x299001_1 x299002_1 x299003_1 x299004_1 x299005_1 = some true) ∧ Aside0 (kq ≤ k) ∧ Aside0 (IsS79 w w' g298 x299000_1 x299001_1 x299002_1 x299003_1 x299004_1 x299005_1) ∧ Aside0 (Below w.heap.size w w'))
    case atStart => exact ⟨(0), (1), (t300), (t301), (t302), (t303), (t304), (t305), (by first | rfl | (simp; done) | (simp [*]; done)), (by first | rfl | (simp; done) | (simp [*]; done)), H', ⟨Nat.le_refl _⟩, ⟨by repeat (first | (with_reducible first | exact HI298.out | apply IsS79.alloc | apply IsS79.drewN | apply IsS79.drew | apply IsS79.set_0 | apply IsS79.set_1 | apply IsS79.set_2 | apply IsS79.set_3 | apply IsS79.set_4 | apply IsS79.set_5) | exact HI298.out)⟩, ⟨by repeat (first | (with_reducible first | exact HB.out | apply below_alloc | apply pw_below_drewN | apply below_drew1 | refine below_set ?_ (IsS79.ge HI298.out)) | exact HB.out)⟩⟩
    case round =>
      clear H'
      try clear c1
      try clear p2
      try clear c3
      try clear c6
      try clear c6b0
      try clear c6b1
      try clear p6
      obtain ⟨x7_1, x8_1, x299000_1, x299001_1, x299002_1, x299003_1, x299004_1, x299005_1, rfl, rfl, HA, HK1, HI298, HB⟩ := hrel
      cases gk with
      | zero => exact absurd HA.out (by simp [millwrightlaw09_LifeFails.l0])
      | succ k1 =>
        have H := HA.out
        clear HA
        simp only [millwrightlaw09_LifeFails.l0] at H
        by_cases c10 : x8_1 ≤ (wrap64 (1 + (Int.tmod (Go.bits .and .i64 a0 65535) 100)))
        · rw [if_pos c10] at H
          have c10b0 : decide (x8_1 ≤ (wrap64 (1 + (Int.tmod (Go.bits .and .i64 a0 65535) 100)))) = true := decide_eq_true c10
          clear c10
          replace H := Option.bind_eq_some_iff.mp H
          obtain ⟨⟨t306, t307, t308, t309, t310, t311, t312⟩, A110, H⟩ := H
          replace H : (if t306 = 0 then (if (wrap64 (x8_1 - 1)) < (l1.length : Int) then (if 0 ≤ (wrap64 (x8_1 - 1)) then (millwrightlaw09_LifeFails.j1 k1 (wrap64 (1 + (Int.tmod (Go.bits .and .i64 a0 65535) 100))) l1 t291 x7_1 x8_1 (rdOf false l1 (wrap64 (x8_1 - 1))) t307 t308 t309 t310 t311 t312) else (none)) else (millwrightlaw09_LifeFails.j1 k1 (wrap64 (1 + (Int.tmod (Go.bits .and .i64 a0 65535) 100))) l1 t291 x7_1 x8_1 false t307 t308 t309 t310 t311 t312)) else (some false)) = some true := H
          have A11 := Aside0.mk A110
          clear A110
          by_cases c12 : t306 = 0
          · rw [if_pos c12] at H
            have c12b0 : (t306 == 0) = true := beq_iff_eq.mpr c12
            have c12b1 : (t306 != 0) = false := bne_eq_false_iff_eq.mpr c12
            clear c12
            have HC13 := Aside0.mk H
            clear H
            go_upto_region 12 with (first | ((with_reducible refine gate_callee (f := 34) rfl ?_); refine goesL_ (some 29) rfl rfl Try.func34 (by kernel_rfl) rfl #[.pointer (some ⟨g298, 0, none⟩)] rfl (by (try simp only [List.map_toArray, List.map_cons, List.map_nil]); first | done | rfl | (simp only [List.length_drop, List.length_take]; rfl)) ?_; (with_reducible refine (life_Life_Start.calls k1 g298 x299000_1 x299001_1 x299002_1 x299003_1 x299004_1 x299005_1 t306 t307 t308 t309 t310 t311 t312 w _ ?side1 ?side2 A11.out).mono ?_); (case side1 => repeat (first | (with_reducible first | exact HI298.out | apply IsS79.alloc | apply IsS79.drewN | apply IsS79.drew | apply IsS79.set_0 | apply IsS79.set_1 | apply IsS79.set_2 | apply IsS79.set_3 | apply IsS79.set_4 | apply IsS79.set_5) | exact HI298.out)); (case side2 => repeat (first | (with_reducible first | exact HB.out | apply below_alloc | apply pw_below_drewN | apply below_drew1 | refine below_set ?_ (IsS79.ge HI298.out)) | exact HB.out)); rintro e w14 ⟨rfl, hi, hb, hk⟩; refine ⟨_, rfl, ?_⟩; have n0_ := Aside0.mk (hb); have n1_ := Aside0.mk (hi); clear HB; clear HI298; have HB := n0_; have HI298 := n1_; clear n0_ n1_; (try clear hb); (try clear hb2); (try clear hk); (try clear hi)))
            (try simp only [Act.put, List.setIfInBounds_toArray, List.set_cons_zero, List.set_cons_succ])
            go_cut [42] (fun v42 wc => ∃ (kq : Nat) (x42_12 : Bool), v42 = .bool x42_12 ∧ Aside0 (millwrightlaw09_LifeFails.j1 kq (wrap64 (1 + (Int.tmod (Go.bits .and .i64 a0 65535) 100))) l1 t291 x7_1 x8_1 x42_12 t307 t308 t309 t310 t311 t312 = some true) ∧ Aside0 (kq ≤ k1) ∧ Aside0 (IsS79 w wc g298 t307 t308 t309 t310 t311 t312) ∧ Aside0 (Below w.heap.size w wc))
            case first =>
              have H := HC13.out
              clear HC13
              by_cases c15 : (wrap64 (x8_1 - 1)) < (l1.length : Int)
              · rw [if_pos c15] at H
                have c15b0 : decide ((wrap64 (x8_1 - 1)) < (l1.length : Int)) = true := decide_eq_true c15
                clear c15
                (first | rw [c15b0] | (simp only [i64_w, i32_w]; rw [c15b0]) | skip)
                obtain ⟨ji16, hji16⟩ : ∃ j_ : Int, (wrap64 (x8_1 - 1)) = j_ := ⟨_, rfl⟩
                replace H : (if 0 ≤ (ji16) then (millwrightlaw09_LifeFails.j1 k1 (wrap64 (1 + (Int.tmod (Go.bits .and .i64 a0 65535) 100))) l1 t291 x7_1 x8_1 (rdOf false l1 (ji16)) t307 t308 t309 t310 t311 t312) else (none)) = some true := by first | (rw [hji16] at H; exact H) | (simp only [hji16] at H ⊢; exact H)
                (try rw [hji16] at c15b0)
                have hji16w : (IntKind.i64.wrap (x8_1 - 1)) = ji16 := (i64_w _).trans hji16
                by_cases c17 : 0 ≤ (ji16)
                · rw [if_pos c17] at H
                  have c17b0 : decide (0 ≤ (ji16)) = true := decide_eq_true c17
                  clear c17
                  have H' := Aside0.mk H
                  clear H
                  have p313 : 0 ≤ ((ji16) : Int) := of_decide_eq_true (by first | (with_reducible assumption) | assumption)
                  have q313 : (ji16) < (l1.length : Int) := of_decide_eq_true (by first | (with_reducible assumption) | assumption)
                  obtain ⟨ad313, e313, hx313_0⟩ := Kd.at_bool HR1.out (ji16) p313 q313
                  cases e313
                  replace hx313_0 := (HB.out.cell (World.block_lt_of_cell? w _ hx313_0)).trans hx313_0
                  replace p313 := eq_true p313
                  replace q313 := eq_true q313
                  go_wp2
                  go_meet
                  case rel => exact ⟨_, (rdOf false l1 (ji16)), (by first | rfl | (simp; done) | (simp only [← hji16] <;> (first | rfl | simp)) | (simp [*]; done)), H', ⟨by have := HK1.out; first | omega | exact Nat.le_refl _⟩, ⟨by repeat (first | (with_reducible first | exact HI298.out | apply IsS79.alloc | apply IsS79.drewN | apply IsS79.drew | apply IsS79.set_0 | apply IsS79.set_1 | apply IsS79.set_2 | apply IsS79.set_3 | apply IsS79.set_4 | apply IsS79.set_5) | exact HI298.out)⟩, ⟨by repeat (first | (with_reducible first | exact HB.out | apply below_alloc | apply pw_below_drewN | apply below_drew1 | refine below_set ?_ (IsS79.ge HI298.out)) | exact HB.out)⟩⟩
                · rw [if_neg c17] at H
                  exact absurd H (by simp)
              · rw [if_neg c15] at H
                have c15b0 : decide ((wrap64 (x8_1 - 1)) < (l1.length : Int)) = false := decide_eq_false c15
                clear c15
                (first | rw [c15b0] | (simp only [i64_w, i32_w]; rw [c15b0]) | skip)
                have H' := Aside0.mk H
                clear H
                go_wp2
                go_meet
                case rel => exact ⟨_, (false), (by first | rfl | (simp; done) | (simp [*]; done)), H', ⟨by have := HK1.out; first | omega | exact Nat.le_refl _⟩, ⟨by repeat (first | (with_reducible first | exact HI298.out | apply IsS79.alloc | apply IsS79.drewN | apply IsS79.drew | apply IsS79.set_0 | apply IsS79.set_1 | apply IsS79.set_2 | apply IsS79.set_3 | apply IsS79.set_4 | apply IsS79.set_5) | exact HI298.out)⟩, ⟨by repeat (first | (with_reducible first | exact HB.out | apply below_alloc | apply pw_below_drewN | apply below_drew1 | refine below_set ?_ (IsS79.ge HI298.out)) | exact HB.out)⟩⟩
            case rest =>
              clear HC13
              try clear c1
              try clear p2
              try clear c3
              try clear p3
              try clear q3
              try clear hx3
              try clear c6
              try clear c6b0
              try clear c6b1
              try clear p6
              try clear c10
              try clear c10b0
              try clear c12
              try clear c12b0
              try clear c12b1
              try clear c15
              try clear c15b0
              try clear c17
              try clear c17b0
              try clear hx313_0
              try clear p2
              try clear p313
              try clear p6
              try clear q313
              obtain ⟨kq, x42_12, rfl, HA, HJ12, HI298, HB⟩ := hcut
              cases kq with
              | zero => exact absurd HA.out (by simp [millwrightlaw09_LifeFails.j1])
              | succ kj12 =>
                have H := HA.out
                clear HA
                simp only [millwrightlaw09_LifeFails.j1] at H
                have HC18 := Aside0.mk H
                clear H
                go_upto_if 42 with (fail)
                go_cut [7] (fun v7 wc => ∃ (kq : Nat) (x7_17 : Int) (x299000_17 : Int) (x299001_17 : Int) (x299002_17 : Int) (x299003_17 : Int) (x299004_17 : Int) (x299005_17 : Int), v7 = .int .i64 x7_17 ∧ Aside0 (millwrightlaw09_LifeFails.j2 kq (wrap64 (1 + (Int.tmod (Go.bits .and .i64 a0 65535) 100))) l1 t291 x7_17 x8_1 x299000_17 x299001_17 x299002_17 x299003_17 x299004_17 x299005_17 = some true) ∧ Aside0 (kq ≤ kj12) ∧ Aside0 (IsS79 w wc g298 x299000_17 x299001_17 x299002_17 x299003_17 x299004_17 x299005_17) ∧ Aside0 (Below w.heap.size w wc))
                case first =>
                  have H := HC18.out
                  clear HC18
                  by_cases c19 : x42_12 = true
                  · subst c19
                    have H1 : ((life_Life_Stop.f kj12 t307 t308 t309 t310 t311 t312).bind fun bt314 => (if bt314.1 = 0 then ((life_Life_Start.f kj12 bt314.2.1 bt314.2.2.1 bt314.2.2.2.1 bt314.2.2.2.2.1 bt314.2.2.2.2.2.1 bt314.2.2.2.2.2.2).bind fun bt321 => (if bt321.1 = 0 then (millwrightlaw09_LifeFails.j2 kj12 (wrap64 (1 + (Int.tmod (Go.bits .and .i64 a0 65535) 100))) l1 t291 (wrap64 (x7_1 + 1)) x8_1 bt321.2.1 bt321.2.2.1 bt321.2.2.2.1 bt321.2.2.2.2.1 bt321.2.2.2.2.2.1 bt321.2.2.2.2.2.2) else (some false))) else (some false))) = some true := by rw [if_pos rfl] at H; exact H
                    clear H
                    have H := H1
                    clear H1
                    replace H := Option.bind_eq_some_iff.mp H
                    obtain ⟨⟨t314, t315, t316, t317, t318, t319, t320⟩, A200, H⟩ := H
                    replace H : (if t314 = 0 then ((life_Life_Start.f kj12 t315 t316 t317 t318 t319 t320).bind fun bt321 => (if bt321.1 = 0 then (millwrightlaw09_LifeFails.j2 kj12 (wrap64 (1 + (Int.tmod (Go.bits .and .i64 a0 65535) 100))) l1 t291 (wrap64 (x7_1 + 1)) x8_1 bt321.2.1 bt321.2.2.1 bt321.2.2.2.1 bt321.2.2.2.2.1 bt321.2.2.2.2.2.1 bt321.2.2.2.2.2.2) else (some false))) else (some false)) = some true := H
                    have A20 := Aside0.mk A200
                    clear A200
                    by_cases c21 : t314 = 0
                    · rw [if_pos c21] at H
                      have c21b0 : (t314 == 0) = true := beq_iff_eq.mpr c21
                      have c21b1 : (t314 != 0) = false := bne_eq_false_iff_eq.mpr c21
                      clear c21
                      (first | rw [c21b0] | (simp only [i64_w, i32_w]; rw [c21b0]) | skip)
                      replace H := Option.bind_eq_some_iff.mp H
                      obtain ⟨⟨t321, t322, t323, t324, t325, t326, t327⟩, A220, H⟩ := H
                      replace H : (if t321 = 0 then (millwrightlaw09_LifeFails.j2 kj12 (wrap64 (1 + (Int.tmod (Go.bits .and .i64 a0 65535) 100))) l1 t291 (wrap64 (x7_1 + 1)) x8_1 t322 t323 t324 t325 t326 t327) else (some false)) = some true := H
                      have A22 := Aside0.mk A220
                      clear A220
                      by_cases c23 : t321 = 0
                      · rw [if_pos c23] at H
                        have c23b0 : (t321 == 0) = true := beq_iff_eq.mpr c23
                        have c23b1 : (t321 != 0) = false := bne_eq_false_iff_eq.mpr c23
                        clear c23
                        have H' := Aside0.mk H
                        clear H
                        go_wp2_with (first | ((with_reducible refine gate_callee (f := 35) rfl ?_); refine goesL_ (some 46) rfl rfl Try.func35 (by kernel_rfl) rfl #[.pointer (some ⟨g298, 0, none⟩)] rfl (by (try simp only [List.map_toArray, List.map_cons, List.map_nil]); first | done | rfl | (simp only [List.length_drop, List.length_take]; rfl)) ?_; (with_reducible refine (life_Life_Stop.calls kj12 g298 t307 t308 t309 t310 t311 t312 t314 t315 t316 t317 t318 t319 t320 w _ ?side1 ?side2 A20.out).mono ?_); (case side1 => repeat (first | (with_reducible first | exact HI298.out | apply IsS79.alloc | apply IsS79.drewN | apply IsS79.drew | apply IsS79.set_0 | apply IsS79.set_1 | apply IsS79.set_2 | apply IsS79.set_3 | apply IsS79.set_4 | apply IsS79.set_5) | exact HI298.out)); (case side2 => repeat (first | (with_reducible first | exact HB.out | apply below_alloc | apply pw_below_drewN | apply below_drew1 | refine below_set ?_ (IsS79.ge HI298.out)) | exact HB.out)); rintro e w24 ⟨rfl, hi, hb, hk⟩; refine ⟨_, rfl, ?_⟩; have n0_ := Aside0.mk (hb); have n1_ := Aside0.mk (hi); clear HB; clear HI298; have HB := n0_; have HI298 := n1_; clear n0_ n1_; (try clear hb); (try clear hb2); (try clear hk); (try clear hi)) | (go_at_call 34; (with_reducible refine (life_Life_Start.calls kj12 g298 t315 t316 t317 t318 t319 t320 t321 t322 t323 t324 t325 t326 t327 w _ ?side1 ?side2 A22.out).mono ?_); (case side1 => repeat (first | (with_reducible first | exact HI298.out | apply IsS79.alloc | apply IsS79.drewN | apply IsS79.drew | apply IsS79.set_0 | apply IsS79.set_1 | apply IsS79.set_2 | apply IsS79.set_3 | apply IsS79.set_4 | apply IsS79.set_5) | exact HI298.out)); (case side2 => repeat (first | (with_reducible first | exact HB.out | apply below_alloc | apply pw_below_drewN | apply below_drew1 | refine below_set ?_ (IsS79.ge HI298.out)) | exact HB.out)); rintro e w25 ⟨rfl, hi, hb, hk⟩; have n0_ := Aside0.mk (hb); have n1_ := Aside0.mk (hi); clear HB; clear HI298; have HB := n0_; have HI298 := n1_; clear n0_ n1_; (try clear hb); (try clear hb2); (try clear hk); (try clear hi)))
                        go_meet
                        case rel => exact ⟨_, (wrap64 (x7_1 + 1)), (t322), (t323), (t324), (t325), (t326), (t327), (by first | rfl | (simp; done) | (simp [*]; done)), H', ⟨by have := HK1.out; have := HJ12.out; first | omega | exact Nat.le_refl _⟩, ⟨by repeat (first | (with_reducible first | exact HI298.out | apply IsS79.alloc | apply IsS79.drewN | apply IsS79.drew | apply IsS79.set_0 | apply IsS79.set_1 | apply IsS79.set_2 | apply IsS79.set_3 | apply IsS79.set_4 | apply IsS79.set_5) | exact HI298.out)⟩, ⟨by repeat (first | (with_reducible first | exact HB.out | apply below_alloc | apply pw_below_drewN | apply below_drew1 | refine below_set ?_ (IsS79.ge HI298.out)) | exact HB.out)⟩⟩
                      · rw [if_neg c23] at H
                        have c23b0 : (t321 == 0) = false := beq_eq_false_iff_ne.mpr c23
                        have c23b1 : (t321 != 0) = true := bne_iff_ne.mpr c23
                        exact absurd H (by simp)
                    · rw [if_neg c21] at H
                      have c21b0 : (t314 == 0) = false := beq_eq_false_iff_ne.mpr c21
                      have c21b1 : (t314 != 0) = true := bne_iff_ne.mpr c21
                      (first | rw [c21b0] | (simp only [i64_w, i32_w]; rw [c21b0]) | skip)
                      exact absurd H (by simp)
                  · replace c19 := Bool.eq_false_iff.mpr c19
                    subst c19
                    have H1 : (millwrightlaw09_LifeFails.j2 kj12 (wrap64 (1 + (Int.tmod (Go.bits .and .i64 a0 65535) 100))) l1 t291 x7_1 x8_1 t307 t308 t309 t310 t311 t312) = some true := by rw [if_neg (show ¬ (false = true) by decide)] at H; exact H
                    clear H
                    have H := H1
                    clear H1
                    have H' := Aside0.mk H
                    clear H
                    go_wp2
                    go_meet
                    case rel => exact ⟨_, (x7_1), (t307), (t308), (t309), (t310), (t311), (t312), (by first | rfl | (simp; done) | (simp [*]; done)), H', ⟨by have := HK1.out; have := HJ12.out; first | omega | exact Nat.le_refl _⟩, ⟨by repeat (first | (with_reducible first | exact HI298.out | apply IsS79.alloc | apply IsS79.drewN | apply IsS79.drew | apply IsS79.set_0 | apply IsS79.set_1 | apply IsS79.set_2 | apply IsS79.set_3 | apply IsS79.set_4 | apply IsS79.set_5) | exact HI298.out)⟩, ⟨by repeat (first | (with_reducible first | exact HB.out | apply below_alloc | apply pw_below_drewN | apply below_drew1 | refine below_set ?_ (IsS79.ge HI298.out)) | exact HB.out)⟩⟩
                case rest =>
                  clear HC18
                  try clear c1
                  try clear c2
                  try clear p2
                  try clear c3
                  try clear p3
                  try clear q3
                  try clear hx3
                  try clear c6
                  try clear c6b0
                  try clear c6b1
                  try clear p6
                  try clear c10
                  try clear c10b0
                  try clear c12
                  try clear c12b0
                  try clear c12b1
                  try clear c15
                  try clear c15b0
                  try clear c17
                  try clear c17b0
                  try clear c19
                  try clear c21
                  try clear c21b0
                  try clear c21b1
                  try clear c23
                  try clear c23b0
                  try clear c23b1
                  try clear hx313_0
                  try clear p2
                  try clear p3
                  try clear p313
                  try clear p6
                  try clear q3
                  try clear q313
                  obtain ⟨kq, x7_17, x299000_17, x299001_17, x299002_17, x299003_17, x299004_17, x299005_17, rfl, HA, HJ17, HI298, HB⟩ := hcut
                  cases kq with
                  | zero => exact absurd HA.out (by simp [millwrightlaw09_LifeFails.j2])
                  | succ kj17 =>
                    have H := HA.out
                    clear HA
                    simp only [millwrightlaw09_LifeFails.j2] at H
                    replace H := Option.bind_eq_some_iff.mp H
                    obtain ⟨⟨t328, t329, t330, t331, t332, t333, t334⟩, A260, H⟩ := H
                    replace H : (if t328 = 0 then ((life_Life_State.f t329 t330 t331 t332 t333 t334).bind fun bt335 => (if bt335.1 = 6 then (if x8_1 = (wrap64 (1 + (Int.tmod (Go.bits .and .i64 a0 65535) 100))) then (if x8_1 < (wrap64 (1 + (Int.tmod (Go.bits .and .i64 a0 65535) 100))) then ((life_Life_State.f bt335.2.1 bt335.2.2.1 bt335.2.2.2.1 bt335.2.2.2.2.1 bt335.2.2.2.2.2.1 bt335.2.2.2.2.2.2).bind fun bt342 => (if bt342.1 = 4 then ((life_Life_Rested.f kj17 bt342.2.1 bt342.2.2.1 bt342.2.2.2.1 bt342.2.2.2.2.1 bt342.2.2.2.2.2.1 bt342.2.2.2.2.2.2).bind fun bt349 => (if bt349.1 = 0 then (millwrightlaw09_LifeFails.l0 kj17 (wrap64 (1 + (Int.tmod (Go.bits .and .i64 a0 65535) 100))) l1 t291 x7_17 (wrap64 (x8_1 + 1)) bt349.2.1 bt349.2.2.1 bt349.2.2.2.1 bt349.2.2.2.2.1 bt349.2.2.2.2.2.1 bt349.2.2.2.2.2.2) else (some false))) else (some false))) else (millwrightlaw09_LifeFails.l0 kj17 (wrap64 (1 + (Int.tmod (Go.bits .and .i64 a0 65535) 100))) l1 t291 x7_17 (wrap64 (x8_1 + 1)) bt335.2.1 bt335.2.2.1 bt335.2.2.2.1 bt335.2.2.2.2.1 bt335.2.2.2.2.2.1 bt335.2.2.2.2.2.2)) else (some false)) else (if x8_1 = (wrap64 (1 + (Int.tmod (Go.bits .and .i64 a0 65535) 100))) then (some false) else (if x8_1 < (wrap64 (1 + (Int.tmod (Go.bits .and .i64 a0 65535) 100))) then ((life_Life_State.f bt335.2.1 bt335.2.2.1 bt335.2.2.2.1 bt335.2.2.2.2.1 bt335.2.2.2.2.2.1 bt335.2.2.2.2.2.2).bind fun bt356 => (if bt356.1 = 4 then ((life_Life_Rested.f kj17 bt356.2.1 bt356.2.2.1 bt356.2.2.2.1 bt356.2.2.2.2.1 bt356.2.2.2.2.2.1 bt356.2.2.2.2.2.2).bind fun bt363 => (if bt363.1 = 0 then (millwrightlaw09_LifeFails.l0 kj17 (wrap64 (1 + (Int.tmod (Go.bits .and .i64 a0 65535) 100))) l1 t291 x7_17 (wrap64 (x8_1 + 1)) bt363.2.1 bt363.2.2.1 bt363.2.2.2.1 bt363.2.2.2.2.1 bt363.2.2.2.2.2.1 bt363.2.2.2.2.2.2) else (some false))) else (some false))) else (millwrightlaw09_LifeFails.l0 kj17 (wrap64 (1 + (Int.tmod (Go.bits .and .i64 a0 65535) 100))) l1 t291 x7_17 (wrap64 (x8_1 + 1)) bt335.2.1 bt335.2.2.1 bt335.2.2.2.1 bt335.2.2.2.2.1 bt335.2.2.2.2.2.1 bt335.2.2.2.2.2.2))))) else (some false)) = some true := H
                    have A26 := Aside0.mk A260
                    clear A260
                    by_cases c27 : t328 = 0
                    · rw [if_pos c27] at H
                      have c27b0 : (t328 == 0) = true := beq_iff_eq.mpr c27
                      have c27b1 : (t328 != 0) = false := bne_eq_false_iff_eq.mpr c27
                      clear c27
                      replace H := Option.bind_eq_some_iff.mp H
                      obtain ⟨⟨t335, t336, t337, t338, t339, t340, t341⟩, A280, H⟩ := H
                      replace H : (if t335 = 6 then (if x8_1 = (wrap64 (1 + (Int.tmod (Go.bits .and .i64 a0 65535) 100))) then (if x8_1 < (wrap64 (1 + (Int.tmod (Go.bits .and .i64 a0 65535) 100))) then ((life_Life_State.f t336 t337 t338 t339 t340 t341).bind fun bt342 => (if bt342.1 = 4 then ((life_Life_Rested.f kj17 bt342.2.1 bt342.2.2.1 bt342.2.2.2.1 bt342.2.2.2.2.1 bt342.2.2.2.2.2.1 bt342.2.2.2.2.2.2).bind fun bt349 => (if bt349.1 = 0 then (millwrightlaw09_LifeFails.l0 kj17 (wrap64 (1 + (Int.tmod (Go.bits .and .i64 a0 65535) 100))) l1 t291 x7_17 (wrap64 (x8_1 + 1)) bt349.2.1 bt349.2.2.1 bt349.2.2.2.1 bt349.2.2.2.2.1 bt349.2.2.2.2.2.1 bt349.2.2.2.2.2.2) else (some false))) else (some false))) else (millwrightlaw09_LifeFails.l0 kj17 (wrap64 (1 + (Int.tmod (Go.bits .and .i64 a0 65535) 100))) l1 t291 x7_17 (wrap64 (x8_1 + 1)) t336 t337 t338 t339 t340 t341)) else (some false)) else (if x8_1 = (wrap64 (1 + (Int.tmod (Go.bits .and .i64 a0 65535) 100))) then (some false) else (if x8_1 < (wrap64 (1 + (Int.tmod (Go.bits .and .i64 a0 65535) 100))) then ((life_Life_State.f t336 t337 t338 t339 t340 t341).bind fun bt356 => (if bt356.1 = 4 then ((life_Life_Rested.f kj17 bt356.2.1 bt356.2.2.1 bt356.2.2.2.1 bt356.2.2.2.2.1 bt356.2.2.2.2.2.1 bt356.2.2.2.2.2.2).bind fun bt363 => (if bt363.1 = 0 then (millwrightlaw09_LifeFails.l0 kj17 (wrap64 (1 + (Int.tmod (Go.bits .and .i64 a0 65535) 100))) l1 t291 x7_17 (wrap64 (x8_1 + 1)) bt363.2.1 bt363.2.2.1 bt363.2.2.2.1 bt363.2.2.2.2.1 bt363.2.2.2.2.2.1 bt363.2.2.2.2.2.2) else (some false))) else (some false))) else (millwrightlaw09_LifeFails.l0 kj17 (wrap64 (1 + (Int.tmod (Go.bits .and .i64 a0 65535) 100))) l1 t291 x7_17 (wrap64 (x8_1 + 1)) t336 t337 t338 t339 t340 t341)))) = some true := H
                      have A28 := Aside0.mk A280
                      clear A280
                      by_cases c29 : t335 = 6
                      · rw [if_pos c29] at H
                        have c29b0 : (t335 == 6) = true := beq_iff_eq.mpr c29
                        have c29b1 : (t335 != 6) = false := bne_eq_false_iff_eq.mpr c29
                        clear c29
                        by_cases c30 : x8_1 = (wrap64 (1 + (Int.tmod (Go.bits .and .i64 a0 65535) 100)))
                        · rw [if_pos c30] at H
                          have c30b0 : (x8_1 == (wrap64 (1 + (Int.tmod (Go.bits .and .i64 a0 65535) 100)))) = true := beq_iff_eq.mpr c30
                          have c30b1 : (x8_1 != (wrap64 (1 + (Int.tmod (Go.bits .and .i64 a0 65535) 100)))) = false := bne_eq_false_iff_eq.mpr c30
                          clear c30
                          by_cases c31 : x8_1 < (wrap64 (1 + (Int.tmod (Go.bits .and .i64 a0 65535) 100)))
                          · rw [if_pos c31] at H
                            have c31b0 : decide (x8_1 < (wrap64 (1 + (Int.tmod (Go.bits .and .i64 a0 65535) 100)))) = true := decide_eq_true c31
                            clear c31
                            replace H := Option.bind_eq_some_iff.mp H
                            obtain ⟨⟨t342, t343, t344, t345, t346, t347, t348⟩, A320, H⟩ := H
                            replace H : (if t342 = 4 then ((life_Life_Rested.f kj17 t343 t344 t345 t346 t347 t348).bind fun bt349 => (if bt349.1 = 0 then (millwrightlaw09_LifeFails.l0 kj17 (wrap64 (1 + (Int.tmod (Go.bits .and .i64 a0 65535) 100))) l1 t291 x7_17 (wrap64 (x8_1 + 1)) bt349.2.1 bt349.2.2.1 bt349.2.2.2.1 bt349.2.2.2.2.1 bt349.2.2.2.2.2.1 bt349.2.2.2.2.2.2) else (some false))) else (some false)) = some true := H
                            have A32 := Aside0.mk A320
                            clear A320
                            by_cases c33 : t342 = 4
                            · rw [if_pos c33] at H
                              have c33b0 : (t342 == 4) = true := beq_iff_eq.mpr c33
                              have c33b1 : (t342 != 4) = false := bne_eq_false_iff_eq.mpr c33
                              clear c33
                              replace H := Option.bind_eq_some_iff.mp H
                              obtain ⟨⟨t349, t350, t351, t352, t353, t354, t355⟩, A340, H⟩ := H
                              replace H : (if t349 = 0 then (millwrightlaw09_LifeFails.l0 kj17 (wrap64 (1 + (Int.tmod (Go.bits .and .i64 a0 65535) 100))) l1 t291 x7_17 (wrap64 (x8_1 + 1)) t350 t351 t352 t353 t354 t355) else (some false)) = some true := H
                              have A34 := Aside0.mk A340
                              clear A340
                              by_cases c35 : t349 = 0
                              · rw [if_pos c35] at H
                                have c35b0 : (t349 == 0) = true := beq_iff_eq.mpr c35
                                have c35b1 : (t349 != 0) = false := bne_eq_false_iff_eq.mpr c35
                                clear c35
                                have H' := Aside0.mk H
                                clear H
                                go_wp2_with (first | ((with_reducible refine gate_callee (f := 36) rfl ?_); refine goesL_ (some 54) rfl rfl Try.func36 (by kernel_rfl) rfl #[.pointer (some ⟨g298, 0, none⟩)] rfl (by (try simp only [List.map_toArray, List.map_cons, List.map_nil]); first | done | rfl | (simp only [List.length_drop, List.length_take]; rfl)) ?_; (with_reducible refine (life_Life_Miss.calls kj17 g298 x299000_17 x299001_17 x299002_17 x299003_17 x299004_17 x299005_17 t328 t329 t330 t331 t332 t333 t334 w _ ?side1 ?side2 A26.out).mono ?_); (case side1 => repeat (first | (with_reducible first | exact HI298.out | apply IsS79.alloc | apply IsS79.drewN | apply IsS79.drew | apply IsS79.set_0 | apply IsS79.set_1 | apply IsS79.set_2 | apply IsS79.set_3 | apply IsS79.set_4 | apply IsS79.set_5) | exact HI298.out)); (case side2 => repeat (first | (with_reducible first | exact HB.out | apply below_alloc | apply pw_below_drewN | apply below_drew1 | refine below_set ?_ (IsS79.ge HI298.out)) | exact HB.out)); rintro e w36 ⟨rfl, hi, hb, hk⟩; refine ⟨_, rfl, ?_⟩; have n0_ := Aside0.mk (hb); have n1_ := Aside0.mk (hi); clear HB; clear HI298; have HB := n0_; have HI298 := n1_; clear n0_ n1_; (try clear hb); (try clear hb2); (try clear hk); (try clear hi)) | (go_at_call 37; (with_reducible refine (life_Life_State.calls g298 t329 t330 t331 t332 t333 t334 t335 t336 t337 t338 t339 t340 t341 w _ ?side1 ?side2 A28.out).mono ?_); (case side1 => repeat (first | (with_reducible first | exact HI298.out | apply IsS79.alloc | apply IsS79.drewN | apply IsS79.drew | apply IsS79.set_0 | apply IsS79.set_1 | apply IsS79.set_2 | apply IsS79.set_3 | apply IsS79.set_4 | apply IsS79.set_5) | exact HI298.out)); (case side2 => repeat (first | (with_reducible first | exact HB.out | apply below_alloc | apply pw_below_drewN | apply below_drew1 | refine below_set ?_ (IsS79.ge HI298.out)) | exact HB.out)); rintro e w37 ⟨rfl, hi, hb, hk⟩; have n0_ := Aside0.mk (hb); have n1_ := Aside0.mk (hi); clear HB; clear HI298; have HB := n0_; have HI298 := n1_; clear n0_ n1_; (try clear hb); (try clear hb2); (try clear hk); (try clear hi)) | (go_at_call 37; (with_reducible refine (life_Life_State.calls g298 t336 t337 t338 t339 t340 t341 t342 t343 t344 t345 t346 t347 t348 w _ ?side1 ?side2 A32.out).mono ?_); (case side1 => repeat (first | (with_reducible first | exact HI298.out | apply IsS79.alloc | apply IsS79.drewN | apply IsS79.drew | apply IsS79.set_0 | apply IsS79.set_1 | apply IsS79.set_2 | apply IsS79.set_3 | apply IsS79.set_4 | apply IsS79.set_5) | exact HI298.out)); (case side2 => repeat (first | (with_reducible first | exact HB.out | apply below_alloc | apply pw_below_drewN | apply below_drew1 | refine below_set ?_ (IsS79.ge HI298.out)) | exact HB.out)); rintro e w38 ⟨rfl, hi, hb, hk⟩; have n0_ := Aside0.mk (hb); have n1_ := Aside0.mk (hi); clear HB; clear HI298; have HB := n0_; have HI298 := n1_; clear n0_ n1_; (try clear hb); (try clear hb2); (try clear hk); (try clear hi)) | (go_at_call 38; (with_reducible refine (life_Life_Rested.calls kj17 g298 t343 t344 t345 t346 t347 t348 t349 t350 t351 t352 t353 t354 t355 w _ ?side1 ?side2 A34.out).mono ?_); (case side1 => repeat (first | (with_reducible first | exact HI298.out | apply IsS79.alloc | apply IsS79.drewN | apply IsS79.drew | apply IsS79.set_0 | apply IsS79.set_1 | apply IsS79.set_2 | apply IsS79.set_3 | apply IsS79.set_4 | apply IsS79.set_5) | exact HI298.out)); (case side2 => repeat (first | (with_reducible first | exact HB.out | apply below_alloc | apply pw_below_drewN | apply below_drew1 | refine below_set ?_ (IsS79.ge HI298.out)) | exact HB.out)); rintro e w39 ⟨rfl, hi, hb, hk⟩; have n0_ := Aside0.mk (hb); have n1_ := Aside0.mk (hi); clear HB; clear HI298; have HB := n0_; have HI298 := n1_; clear n0_ n1_; (try clear hb); (try clear hb2); (try clear hk); (try clear hi)))
                                go_roundg kj17
                                case measure => have := HK1.out; have := HJ12.out; have := HJ17.out; omega
                                case rel => exact ⟨(x7_17), (wrap64 (x8_1 + 1)), (t350), (t351), (t352), (t353), (t354), (t355), (by first | rfl | (simp; done) | (simp [*]; done)), (by first | rfl | (simp; done) | (simp [*]; done)), H', ⟨by have := HK1.out; have := HJ12.out; have := HJ17.out; omega⟩, ⟨by repeat (first | (with_reducible first | exact HI298.out | apply IsS79.alloc | apply IsS79.drewN | apply IsS79.drew | apply IsS79.set_0 | apply IsS79.set_1 | apply IsS79.set_2 | apply IsS79.set_3 | apply IsS79.set_4 | apply IsS79.set_5) | exact HI298.out)⟩, ⟨by repeat (first | (with_reducible first | exact HB.out | apply below_alloc | apply pw_below_drewN | apply below_drew1 | refine below_set ?_ (IsS79.ge HI298.out)) | exact HB.out)⟩⟩
                              · rw [if_neg c35] at H
                                have c35b0 : (t349 == 0) = false := beq_eq_false_iff_ne.mpr c35
                                have c35b1 : (t349 != 0) = true := bne_iff_ne.mpr c35
                                exact absurd H (by simp)
                            · rw [if_neg c33] at H
                              have c33b0 : (t342 == 4) = false := beq_eq_false_iff_ne.mpr c33
                              have c33b1 : (t342 != 4) = true := bne_iff_ne.mpr c33
                              exact absurd H (by simp)
                          · rw [if_neg c31] at H
                            have c31b0 : decide (x8_1 < (wrap64 (1 + (Int.tmod (Go.bits .and .i64 a0 65535) 100)))) = false := decide_eq_false c31
                            clear c31
                            have H' := Aside0.mk H
                            clear H
                            go_wp2_with (first | ((with_reducible refine gate_callee (f := 36) rfl ?_); refine goesL_ (some 54) rfl rfl Try.func36 (by kernel_rfl) rfl #[.pointer (some ⟨g298, 0, none⟩)] rfl (by (try simp only [List.map_toArray, List.map_cons, List.map_nil]); first | done | rfl | (simp only [List.length_drop, List.length_take]; rfl)) ?_; (with_reducible refine (life_Life_Miss.calls kj17 g298 x299000_17 x299001_17 x299002_17 x299003_17 x299004_17 x299005_17 t328 t329 t330 t331 t332 t333 t334 w _ ?side1 ?side2 A26.out).mono ?_); (case side1 => repeat (first | (with_reducible first | exact HI298.out | apply IsS79.alloc | apply IsS79.drewN | apply IsS79.drew | apply IsS79.set_0 | apply IsS79.set_1 | apply IsS79.set_2 | apply IsS79.set_3 | apply IsS79.set_4 | apply IsS79.set_5) | exact HI298.out)); (case side2 => repeat (first | (with_reducible first | exact HB.out | apply below_alloc | apply pw_below_drewN | apply below_drew1 | refine below_set ?_ (IsS79.ge HI298.out)) | exact HB.out)); rintro e w40 ⟨rfl, hi, hb, hk⟩; refine ⟨_, rfl, ?_⟩; have n0_ := Aside0.mk (hb); have n1_ := Aside0.mk (hi); clear HB; clear HI298; have HB := n0_; have HI298 := n1_; clear n0_ n1_; (try clear hb); (try clear hb2); (try clear hk); (try clear hi)) | (go_at_call 37; (with_reducible refine (life_Life_State.calls g298 t329 t330 t331 t332 t333 t334 t335 t336 t337 t338 t339 t340 t341 w _ ?side1 ?side2 A28.out).mono ?_); (case side1 => repeat (first | (with_reducible first | exact HI298.out | apply IsS79.alloc | apply IsS79.drewN | apply IsS79.drew | apply IsS79.set_0 | apply IsS79.set_1 | apply IsS79.set_2 | apply IsS79.set_3 | apply IsS79.set_4 | apply IsS79.set_5) | exact HI298.out)); (case side2 => repeat (first | (with_reducible first | exact HB.out | apply below_alloc | apply pw_below_drewN | apply below_drew1 | refine below_set ?_ (IsS79.ge HI298.out)) | exact HB.out)); rintro e w41 ⟨rfl, hi, hb, hk⟩; have n0_ := Aside0.mk (hb); have n1_ := Aside0.mk (hi); clear HB; clear HI298; have HB := n0_; have HI298 := n1_; clear n0_ n1_; (try clear hb); (try clear hb2); (try clear hk); (try clear hi)))
                            go_roundg kj17
                            case measure => have := HK1.out; have := HJ12.out; have := HJ17.out; omega
                            case rel => exact ⟨(x7_17), (wrap64 (x8_1 + 1)), (t336), (t337), (t338), (t339), (t340), (t341), (by first | rfl | (simp; done) | (simp [*]; done)), (by first | rfl | (simp; done) | (simp [*]; done)), H', ⟨by have := HK1.out; have := HJ12.out; have := HJ17.out; omega⟩, ⟨by repeat (first | (with_reducible first | exact HI298.out | apply IsS79.alloc | apply IsS79.drewN | apply IsS79.drew | apply IsS79.set_0 | apply IsS79.set_1 | apply IsS79.set_2 | apply IsS79.set_3 | apply IsS79.set_4 | apply IsS79.set_5) | exact HI298.out)⟩, ⟨by repeat (first | (with_reducible first | exact HB.out | apply below_alloc | apply pw_below_drewN | apply below_drew1 | refine below_set ?_ (IsS79.ge HI298.out)) | exact HB.out)⟩⟩
                        · rw [if_neg c30] at H
                          have c30b0 : (x8_1 == (wrap64 (1 + (Int.tmod (Go.bits .and .i64 a0 65535) 100)))) = false := beq_eq_false_iff_ne.mpr c30
                          have c30b1 : (x8_1 != (wrap64 (1 + (Int.tmod (Go.bits .and .i64 a0 65535) 100)))) = true := bne_iff_ne.mpr c30
                          exact absurd H (by simp)
                      · rw [if_neg c29] at H
                        have c29b0 : (t335 == 6) = false := beq_eq_false_iff_ne.mpr c29
                        have c29b1 : (t335 != 6) = true := bne_iff_ne.mpr c29
                        by_cases c42 : x8_1 = (wrap64 (1 + (Int.tmod (Go.bits .and .i64 a0 65535) 100)))
                        · rw [if_pos c42] at H
                          have c42b0 : (x8_1 == (wrap64 (1 + (Int.tmod (Go.bits .and .i64 a0 65535) 100)))) = true := beq_iff_eq.mpr c42
                          have c42b1 : (x8_1 != (wrap64 (1 + (Int.tmod (Go.bits .and .i64 a0 65535) 100)))) = false := bne_eq_false_iff_eq.mpr c42
                          clear c42
                          exact absurd H (by simp)
                        · rw [if_neg c42] at H
                          have c42b0 : (x8_1 == (wrap64 (1 + (Int.tmod (Go.bits .and .i64 a0 65535) 100)))) = false := beq_eq_false_iff_ne.mpr c42
                          have c42b1 : (x8_1 != (wrap64 (1 + (Int.tmod (Go.bits .and .i64 a0 65535) 100)))) = true := bne_iff_ne.mpr c42
                          by_cases c43 : x8_1 < (wrap64 (1 + (Int.tmod (Go.bits .and .i64 a0 65535) 100)))
                          · rw [if_pos c43] at H
                            have c43b0 : decide (x8_1 < (wrap64 (1 + (Int.tmod (Go.bits .and .i64 a0 65535) 100)))) = true := decide_eq_true c43
                            clear c43
                            replace H := Option.bind_eq_some_iff.mp H
                            obtain ⟨⟨t356, t357, t358, t359, t360, t361, t362⟩, A440, H⟩ := H
                            replace H : (if t356 = 4 then ((life_Life_Rested.f kj17 t357 t358 t359 t360 t361 t362).bind fun bt363 => (if bt363.1 = 0 then (millwrightlaw09_LifeFails.l0 kj17 (wrap64 (1 + (Int.tmod (Go.bits .and .i64 a0 65535) 100))) l1 t291 x7_17 (wrap64 (x8_1 + 1)) bt363.2.1 bt363.2.2.1 bt363.2.2.2.1 bt363.2.2.2.2.1 bt363.2.2.2.2.2.1 bt363.2.2.2.2.2.2) else (some false))) else (some false)) = some true := H
                            have A44 := Aside0.mk A440
                            clear A440
                            by_cases c45 : t356 = 4
                            · rw [if_pos c45] at H
                              have c45b0 : (t356 == 4) = true := beq_iff_eq.mpr c45
                              have c45b1 : (t356 != 4) = false := bne_eq_false_iff_eq.mpr c45
                              clear c45
                              replace H := Option.bind_eq_some_iff.mp H
                              obtain ⟨⟨t363, t364, t365, t366, t367, t368, t369⟩, A460, H⟩ := H
                              replace H : (if t363 = 0 then (millwrightlaw09_LifeFails.l0 kj17 (wrap64 (1 + (Int.tmod (Go.bits .and .i64 a0 65535) 100))) l1 t291 x7_17 (wrap64 (x8_1 + 1)) t364 t365 t366 t367 t368 t369) else (some false)) = some true := H
                              have A46 := Aside0.mk A460
                              clear A460
                              by_cases c47 : t363 = 0
                              · rw [if_pos c47] at H
                                have c47b0 : (t363 == 0) = true := beq_iff_eq.mpr c47
                                have c47b1 : (t363 != 0) = false := bne_eq_false_iff_eq.mpr c47
                                clear c47
                                have H' := Aside0.mk H
                                clear H
                                go_wp2_with (first | ((with_reducible refine gate_callee (f := 36) rfl ?_); refine goesL_ (some 54) rfl rfl Try.func36 (by kernel_rfl) rfl #[.pointer (some ⟨g298, 0, none⟩)] rfl (by (try simp only [List.map_toArray, List.map_cons, List.map_nil]); first | done | rfl | (simp only [List.length_drop, List.length_take]; rfl)) ?_; (with_reducible refine (life_Life_Miss.calls kj17 g298 x299000_17 x299001_17 x299002_17 x299003_17 x299004_17 x299005_17 t328 t329 t330 t331 t332 t333 t334 w _ ?side1 ?side2 A26.out).mono ?_); (case side1 => repeat (first | (with_reducible first | exact HI298.out | apply IsS79.alloc | apply IsS79.drewN | apply IsS79.drew | apply IsS79.set_0 | apply IsS79.set_1 | apply IsS79.set_2 | apply IsS79.set_3 | apply IsS79.set_4 | apply IsS79.set_5) | exact HI298.out)); (case side2 => repeat (first | (with_reducible first | exact HB.out | apply below_alloc | apply pw_below_drewN | apply below_drew1 | refine below_set ?_ (IsS79.ge HI298.out)) | exact HB.out)); rintro e w48 ⟨rfl, hi, hb, hk⟩; refine ⟨_, rfl, ?_⟩; have n0_ := Aside0.mk (hb); have n1_ := Aside0.mk (hi); clear HB; clear HI298; have HB := n0_; have HI298 := n1_; clear n0_ n1_; (try clear hb); (try clear hb2); (try clear hk); (try clear hi)) | (go_at_call 37; (with_reducible refine (life_Life_State.calls g298 t329 t330 t331 t332 t333 t334 t335 t336 t337 t338 t339 t340 t341 w _ ?side1 ?side2 A28.out).mono ?_); (case side1 => repeat (first | (with_reducible first | exact HI298.out | apply IsS79.alloc | apply IsS79.drewN | apply IsS79.drew | apply IsS79.set_0 | apply IsS79.set_1 | apply IsS79.set_2 | apply IsS79.set_3 | apply IsS79.set_4 | apply IsS79.set_5) | exact HI298.out)); (case side2 => repeat (first | (with_reducible first | exact HB.out | apply below_alloc | apply pw_below_drewN | apply below_drew1 | refine below_set ?_ (IsS79.ge HI298.out)) | exact HB.out)); rintro e w49 ⟨rfl, hi, hb, hk⟩; have n0_ := Aside0.mk (hb); have n1_ := Aside0.mk (hi); clear HB; clear HI298; have HB := n0_; have HI298 := n1_; clear n0_ n1_; (try clear hb); (try clear hb2); (try clear hk); (try clear hi)) | (go_at_call 37; (with_reducible refine (life_Life_State.calls g298 t336 t337 t338 t339 t340 t341 t356 t357 t358 t359 t360 t361 t362 w _ ?side1 ?side2 A44.out).mono ?_); (case side1 => repeat (first | (with_reducible first | exact HI298.out | apply IsS79.alloc | apply IsS79.drewN | apply IsS79.drew | apply IsS79.set_0 | apply IsS79.set_1 | apply IsS79.set_2 | apply IsS79.set_3 | apply IsS79.set_4 | apply IsS79.set_5) | exact HI298.out)); (case side2 => repeat (first | (with_reducible first | exact HB.out | apply below_alloc | apply pw_below_drewN | apply below_drew1 | refine below_set ?_ (IsS79.ge HI298.out)) | exact HB.out)); rintro e w50 ⟨rfl, hi, hb, hk⟩; have n0_ := Aside0.mk (hb); have n1_ := Aside0.mk (hi); clear HB; clear HI298; have HB := n0_; have HI298 := n1_; clear n0_ n1_; (try clear hb); (try clear hb2); (try clear hk); (try clear hi)) | (go_at_call 38; (with_reducible refine (life_Life_Rested.calls kj17 g298 t357 t358 t359 t360 t361 t362 t363 t364 t365 t366 t367 t368 t369 w _ ?side1 ?side2 A46.out).mono ?_); (case side1 => repeat (first | (with_reducible first | exact HI298.out | apply IsS79.alloc | apply IsS79.drewN | apply IsS79.drew | apply IsS79.set_0 | apply IsS79.set_1 | apply IsS79.set_2 | apply IsS79.set_3 | apply IsS79.set_4 | apply IsS79.set_5) | exact HI298.out)); (case side2 => repeat (first | (with_reducible first | exact HB.out | apply below_alloc | apply pw_below_drewN | apply below_drew1 | refine below_set ?_ (IsS79.ge HI298.out)) | exact HB.out)); rintro e w51 ⟨rfl, hi, hb, hk⟩; have n0_ := Aside0.mk (hb); have n1_ := Aside0.mk (hi); clear HB; clear HI298; have HB := n0_; have HI298 := n1_; clear n0_ n1_; (try clear hb); (try clear hb2); (try clear hk); (try clear hi)))
                                go_roundg kj17
                                case measure => have := HK1.out; have := HJ12.out; have := HJ17.out; omega
                                case rel => exact ⟨(x7_17), (wrap64 (x8_1 + 1)), (t364), (t365), (t366), (t367), (t368), (t369), (by first | rfl | (simp; done) | (simp [*]; done)), (by first | rfl | (simp; done) | (simp [*]; done)), H', ⟨by have := HK1.out; have := HJ12.out; have := HJ17.out; omega⟩, ⟨by repeat (first | (with_reducible first | exact HI298.out | apply IsS79.alloc | apply IsS79.drewN | apply IsS79.drew | apply IsS79.set_0 | apply IsS79.set_1 | apply IsS79.set_2 | apply IsS79.set_3 | apply IsS79.set_4 | apply IsS79.set_5) | exact HI298.out)⟩, ⟨by repeat (first | (with_reducible first | exact HB.out | apply below_alloc | apply pw_below_drewN | apply below_drew1 | refine below_set ?_ (IsS79.ge HI298.out)) | exact HB.out)⟩⟩
                              · rw [if_neg c47] at H
                                have c47b0 : (t363 == 0) = false := beq_eq_false_iff_ne.mpr c47
                                have c47b1 : (t363 != 0) = true := bne_iff_ne.mpr c47
                                exact absurd H (by simp)
                            · rw [if_neg c45] at H
                              have c45b0 : (t356 == 4) = false := beq_eq_false_iff_ne.mpr c45
                              have c45b1 : (t356 != 4) = true := bne_iff_ne.mpr c45
                              exact absurd H (by simp)
                          · rw [if_neg c43] at H
                            have c43b0 : decide (x8_1 < (wrap64 (1 + (Int.tmod (Go.bits .and .i64 a0 65535) 100)))) = false := decide_eq_false c43
                            clear c43
                            have H' := Aside0.mk H
                            clear H
                            go_wp2_with (first | ((with_reducible refine gate_callee (f := 36) rfl ?_); refine goesL_ (some 54) rfl rfl Try.func36 (by kernel_rfl) rfl #[.pointer (some ⟨g298, 0, none⟩)] rfl (by (try simp only [List.map_toArray, List.map_cons, List.map_nil]); first | done | rfl | (simp only [List.length_drop, List.length_take]; rfl)) ?_; (with_reducible refine (life_Life_Miss.calls kj17 g298 x299000_17 x299001_17 x299002_17 x299003_17 x299004_17 x299005_17 t328 t329 t330 t331 t332 t333 t334 w _ ?side1 ?side2 A26.out).mono ?_); (case side1 => repeat (first | (with_reducible first | exact HI298.out | apply IsS79.alloc | apply IsS79.drewN | apply IsS79.drew | apply IsS79.set_0 | apply IsS79.set_1 | apply IsS79.set_2 | apply IsS79.set_3 | apply IsS79.set_4 | apply IsS79.set_5) | exact HI298.out)); (case side2 => repeat (first | (with_reducible first | exact HB.out | apply below_alloc | apply pw_below_drewN | apply below_drew1 | refine below_set ?_ (IsS79.ge HI298.out)) | exact HB.out)); rintro e w52 ⟨rfl, hi, hb, hk⟩; refine ⟨_, rfl, ?_⟩; have n0_ := Aside0.mk (hb); have n1_ := Aside0.mk (hi); clear HB; clear HI298; have HB := n0_; have HI298 := n1_; clear n0_ n1_; (try clear hb); (try clear hb2); (try clear hk); (try clear hi)) | (go_at_call 37; (with_reducible refine (life_Life_State.calls g298 t329 t330 t331 t332 t333 t334 t335 t336 t337 t338 t339 t340 t341 w _ ?side1 ?side2 A28.out).mono ?_); (case side1 => repeat (first | (with_reducible first | exact HI298.out | apply IsS79.alloc | apply IsS79.drewN | apply IsS79.drew | apply IsS79.set_0 | apply IsS79.set_1 | apply IsS79.set_2 | apply IsS79.set_3 | apply IsS79.set_4 | apply IsS79.set_5) | exact HI298.out)); (case side2 => repeat (first | (with_reducible first | exact HB.out | apply below_alloc | apply pw_below_drewN | apply below_drew1 | refine below_set ?_ (IsS79.ge HI298.out)) | exact HB.out)); rintro e w53 ⟨rfl, hi, hb, hk⟩; have n0_ := Aside0.mk (hb); have n1_ := Aside0.mk (hi); clear HB; clear HI298; have HB := n0_; have HI298 := n1_; clear n0_ n1_; (try clear hb); (try clear hb2); (try clear hk); (try clear hi)))
                            go_roundg kj17
                            case measure => have := HK1.out; have := HJ12.out; have := HJ17.out; omega
                            case rel => exact ⟨(x7_17), (wrap64 (x8_1 + 1)), (t336), (t337), (t338), (t339), (t340), (t341), (by first | rfl | (simp; done) | (simp [*]; done)), (by first | rfl | (simp; done) | (simp [*]; done)), H', ⟨by have := HK1.out; have := HJ12.out; have := HJ17.out; omega⟩, ⟨by repeat (first | (with_reducible first | exact HI298.out | apply IsS79.alloc | apply IsS79.drewN | apply IsS79.drew | apply IsS79.set_0 | apply IsS79.set_1 | apply IsS79.set_2 | apply IsS79.set_3 | apply IsS79.set_4 | apply IsS79.set_5) | exact HI298.out)⟩, ⟨by repeat (first | (with_reducible first | exact HB.out | apply below_alloc | apply pw_below_drewN | apply below_drew1 | refine below_set ?_ (IsS79.ge HI298.out)) | exact HB.out)⟩⟩
                    · rw [if_neg c27] at H
                      have c27b0 : (t328 == 0) = false := beq_eq_false_iff_ne.mpr c27
                      have c27b1 : (t328 != 0) = true := bne_iff_ne.mpr c27
                      exact absurd H (by simp)
          · rw [if_neg c12] at H
            have c12b0 : (t306 == 0) = false := beq_eq_false_iff_ne.mpr c12
            have c12b1 : (t306 != 0) = true := bne_iff_ne.mpr c12
            exact absurd H (by simp)
        · rw [if_neg c10] at H
          have c10b0 : decide (x8_1 ≤ (wrap64 (1 + (Int.tmod (Go.bits .and .i64 a0 65535) 100)))) = false := decide_eq_false c10
          clear c10
          by_cases c54 : t291 = true
          · subst c54
            have H1 : ((life_Life_Missed.f x299000_1 x299001_1 x299002_1 x299003_1 x299004_1 x299005_1).bind fun bt370 => (if bt370.1 = (wrap64 (1 + (Int.tmod (Go.bits .and .i64 a0 65535) 100))) then ((life_Life_Stopped.f bt370.2.1 bt370.2.2.1 bt370.2.2.2.1 bt370.2.2.2.2.1 bt370.2.2.2.2.2.1 bt370.2.2.2.2.2.2).bind fun bt377 => (if bt377.1 = x7_1 then ((life_Life_Epoch.f bt377.2.1 bt377.2.2.1 bt377.2.2.2.1 bt377.2.2.2.2.1 bt377.2.2.2.2.2.1 bt377.2.2.2.2.2.2).bind fun bt384 => (if bt384.1 = (wrap64 ((wrap64 (1 + (Int.tmod (Go.bits .and .i64 a0 65535) 100))) + x7_1)) then ((life_Life_Final.f bt384.2.1 bt384.2.2.1 bt384.2.2.2.1 bt384.2.2.2.2.1 bt384.2.2.2.2.2.1 bt384.2.2.2.2.2.2).bind fun bt391 => (some bt391.1)) else (some false))) else (some false))) else (some false))) = some true := by rw [if_pos rfl] at H; exact H
            clear H
            have H := H1
            clear H1
            replace H := Option.bind_eq_some_iff.mp H
            obtain ⟨⟨t370, t371, t372, t373, t374, t375, t376⟩, A550, H⟩ := H
            replace H : (if t370 = (wrap64 (1 + (Int.tmod (Go.bits .and .i64 a0 65535) 100))) then ((life_Life_Stopped.f t371 t372 t373 t374 t375 t376).bind fun bt377 => (if bt377.1 = x7_1 then ((life_Life_Epoch.f bt377.2.1 bt377.2.2.1 bt377.2.2.2.1 bt377.2.2.2.2.1 bt377.2.2.2.2.2.1 bt377.2.2.2.2.2.2).bind fun bt384 => (if bt384.1 = (wrap64 ((wrap64 (1 + (Int.tmod (Go.bits .and .i64 a0 65535) 100))) + x7_1)) then ((life_Life_Final.f bt384.2.1 bt384.2.2.1 bt384.2.2.2.1 bt384.2.2.2.2.1 bt384.2.2.2.2.2.1 bt384.2.2.2.2.2.2).bind fun bt391 => (some bt391.1)) else (some false))) else (some false))) else (some false)) = some true := H
            have A55 := Aside0.mk A550
            clear A550
            by_cases c56 : t370 = (wrap64 (1 + (Int.tmod (Go.bits .and .i64 a0 65535) 100)))
            · rw [if_pos c56] at H
              have c56b0 : (t370 == (wrap64 (1 + (Int.tmod (Go.bits .and .i64 a0 65535) 100)))) = true := beq_iff_eq.mpr c56
              have c56b1 : (t370 != (wrap64 (1 + (Int.tmod (Go.bits .and .i64 a0 65535) 100)))) = false := bne_eq_false_iff_eq.mpr c56
              clear c56
              replace H := Option.bind_eq_some_iff.mp H
              obtain ⟨⟨t377, t378, t379, t380, t381, t382, t383⟩, A570, H⟩ := H
              replace H : (if t377 = x7_1 then ((life_Life_Epoch.f t378 t379 t380 t381 t382 t383).bind fun bt384 => (if bt384.1 = (wrap64 ((wrap64 (1 + (Int.tmod (Go.bits .and .i64 a0 65535) 100))) + x7_1)) then ((life_Life_Final.f bt384.2.1 bt384.2.2.1 bt384.2.2.2.1 bt384.2.2.2.2.1 bt384.2.2.2.2.2.1 bt384.2.2.2.2.2.2).bind fun bt391 => (some bt391.1)) else (some false))) else (some false)) = some true := H
              have A57 := Aside0.mk A570
              clear A570
              by_cases c58 : t377 = x7_1
              · rw [if_pos c58] at H
                have c58b0 : (t377 == x7_1) = true := beq_iff_eq.mpr c58
                have c58b1 : (t377 != x7_1) = false := bne_eq_false_iff_eq.mpr c58
                clear c58
                replace H := Option.bind_eq_some_iff.mp H
                obtain ⟨⟨t384, t385, t386, t387, t388, t389, t390⟩, A590, H⟩ := H
                replace H : (if t384 = (wrap64 ((wrap64 (1 + (Int.tmod (Go.bits .and .i64 a0 65535) 100))) + x7_1)) then ((life_Life_Final.f t385 t386 t387 t388 t389 t390).bind fun bt391 => (some bt391.1)) else (some false)) = some true := H
                have A59 := Aside0.mk A590
                clear A590
                by_cases c60 : t384 = (wrap64 ((wrap64 (1 + (Int.tmod (Go.bits .and .i64 a0 65535) 100))) + x7_1))
                · rw [if_pos c60] at H
                  have c60b0 : (t384 == (wrap64 ((wrap64 (1 + (Int.tmod (Go.bits .and .i64 a0 65535) 100))) + x7_1))) = true := beq_iff_eq.mpr c60
                  have c60b1 : (t384 != (wrap64 ((wrap64 (1 + (Int.tmod (Go.bits .and .i64 a0 65535) 100))) + x7_1))) = false := bne_eq_false_iff_eq.mpr c60
                  clear c60
                  replace H := Option.bind_eq_some_iff.mp H
                  obtain ⟨⟨t391, t392, t393, t394, t395, t396, t397⟩, A610, H⟩ := H
                  replace H : (some t391) = some true := H
                  have A61 := Aside0.mk A610
                  clear A610
                  have HT_ := Option.some.inj H
                  clear H
                  go_wp2_with (first | (go_at_call 39; (with_reducible refine (life_Life_Missed.calls g298 x299000_1 x299001_1 x299002_1 x299003_1 x299004_1 x299005_1 t370 t371 t372 t373 t374 t375 t376 w _ ?side1 ?side2 A55.out).mono ?_); (case side1 => repeat (first | (with_reducible first | exact HI298.out | apply IsS79.alloc | apply IsS79.drewN | apply IsS79.drew | apply IsS79.set_0 | apply IsS79.set_1 | apply IsS79.set_2 | apply IsS79.set_3 | apply IsS79.set_4 | apply IsS79.set_5) | exact HI298.out)); (case side2 => repeat (first | (with_reducible first | exact HB.out | apply below_alloc | apply pw_below_drewN | apply below_drew1 | refine below_set ?_ (IsS79.ge HI298.out)) | exact HB.out)); rintro e w62 ⟨rfl, hi, hb, hk⟩; have n0_ := Aside0.mk (hb); have n1_ := Aside0.mk (hi); clear HB; clear HI298; have HB := n0_; have HI298 := n1_; clear n0_ n1_; (try clear hb); (try clear hb2); (try clear hk); (try clear hi)) | (go_at_call 40; (with_reducible refine (life_Life_Stopped.calls g298 t371 t372 t373 t374 t375 t376 t377 t378 t379 t380 t381 t382 t383 w _ ?side1 ?side2 A57.out).mono ?_); (case side1 => repeat (first | (with_reducible first | exact HI298.out | apply IsS79.alloc | apply IsS79.drewN | apply IsS79.drew | apply IsS79.set_0 | apply IsS79.set_1 | apply IsS79.set_2 | apply IsS79.set_3 | apply IsS79.set_4 | apply IsS79.set_5) | exact HI298.out)); (case side2 => repeat (first | (with_reducible first | exact HB.out | apply below_alloc | apply pw_below_drewN | apply below_drew1 | refine below_set ?_ (IsS79.ge HI298.out)) | exact HB.out)); rintro e w63 ⟨rfl, hi, hb, hk⟩; have n0_ := Aside0.mk (hb); have n1_ := Aside0.mk (hi); clear HB; clear HI298; have HB := n0_; have HI298 := n1_; clear n0_ n1_; (try clear hb); (try clear hb2); (try clear hk); (try clear hi)) | (go_at_call 41; (with_reducible refine (life_Life_Epoch.calls g298 t378 t379 t380 t381 t382 t383 t384 t385 t386 t387 t388 t389 t390 w _ ?side1 ?side2 A59.out).mono ?_); (case side1 => repeat (first | (with_reducible first | exact HI298.out | apply IsS79.alloc | apply IsS79.drewN | apply IsS79.drew | apply IsS79.set_0 | apply IsS79.set_1 | apply IsS79.set_2 | apply IsS79.set_3 | apply IsS79.set_4 | apply IsS79.set_5) | exact HI298.out)); (case side2 => repeat (first | (with_reducible first | exact HB.out | apply below_alloc | apply pw_below_drewN | apply below_drew1 | refine below_set ?_ (IsS79.ge HI298.out)) | exact HB.out)); rintro e w64 ⟨rfl, hi, hb, hk⟩; have n0_ := Aside0.mk (hb); have n1_ := Aside0.mk (hi); clear HB; clear HI298; have HB := n0_; have HI298 := n1_; clear n0_ n1_; (try clear hb); (try clear hb2); (try clear hk); (try clear hi)) | (go_at_call 42; (with_reducible refine (life_Life_Final.calls g298 t385 t386 t387 t388 t389 t390 t391 t392 t393 t394 t395 t396 t397 w _ ?side1 ?side2 A61.out).mono ?_); (case side1 => repeat (first | (with_reducible first | exact HI298.out | apply IsS79.alloc | apply IsS79.drewN | apply IsS79.drew | apply IsS79.set_0 | apply IsS79.set_1 | apply IsS79.set_2 | apply IsS79.set_3 | apply IsS79.set_4 | apply IsS79.set_5) | exact HI298.out)); (case side2 => repeat (first | (with_reducible first | exact HB.out | apply below_alloc | apply pw_below_drewN | apply below_drew1 | refine below_set ?_ (IsS79.ge HI298.out)) | exact HB.out)); rintro e w65 ⟨rfl, hi, hb, hk⟩; have n0_ := Aside0.mk (hb); have n1_ := Aside0.mk (hi); clear HB; clear HI298; have HB := n0_; have HI298 := n1_; clear n0_ n1_; (try clear hb); (try clear hb2); (try clear hk); (try clear hi)))
                  go_ret
                  exact ⟨by first | rfl | (simp [errW_none, errW_some] <;> rfl) | (simp [*, errW_none, errW_some] <;> rfl), by repeat (first | (with_reducible first | exact HB.out | apply below_alloc | apply pw_below_drewN | apply below_drew1 | refine below_set ?_ (IsS79.ge HI298.out)) | exact HB.out)⟩
                · rw [if_neg c60] at H
                  have c60b0 : (t384 == (wrap64 ((wrap64 (1 + (Int.tmod (Go.bits .and .i64 a0 65535) 100))) + x7_1))) = false := beq_eq_false_iff_ne.mpr c60
                  have c60b1 : (t384 != (wrap64 ((wrap64 (1 + (Int.tmod (Go.bits .and .i64 a0 65535) 100))) + x7_1))) = true := bne_iff_ne.mpr c60
                  exact absurd H (by simp)
              · rw [if_neg c58] at H
                have c58b0 : (t377 == x7_1) = false := beq_eq_false_iff_ne.mpr c58
                have c58b1 : (t377 != x7_1) = true := bne_iff_ne.mpr c58
                exact absurd H (by simp)
            · rw [if_neg c56] at H
              have c56b0 : (t370 == (wrap64 (1 + (Int.tmod (Go.bits .and .i64 a0 65535) 100)))) = false := beq_eq_false_iff_ne.mpr c56
              have c56b1 : (t370 != (wrap64 (1 + (Int.tmod (Go.bits .and .i64 a0 65535) 100)))) = true := bne_iff_ne.mpr c56
              exact absurd H (by simp)
          · replace c54 := Bool.eq_false_iff.mpr c54
            subst c54
            have H1 : (some false) = some true := by rw [if_neg (show ¬ (false = true) by decide)] at H; exact H
            clear H
            have H := H1
            clear H1
            exact absurd H (by simp)
  · rw [if_neg c6] at H
    have c6b0 : (t299 == 0) = false := beq_eq_false_iff_ne.mpr c6
    have c6b1 : (t299 != 0) = true := bne_iff_ne.mpr c6
    exact absurd H (by simp)

end Go.Proofs.Ytkldfjlbgmppfaa.MLifeFails
