-- Written by a program of this session out of Lean's own print of the program. Not trusted: Lean checks it.
import Derived.Test.YtkldfjlbgmppfabMLifeBoundsx0
import Derived.Test.YtkldfjlbgmppfabMLifeBoundsx1
import Derived.Test.YtkldfjlbgmppfabMLifeBoundsx2
import Derived.Test.YtkldfjlbgmppfabMLifeBoundsx3
import Derived.Test.YtkldfjlbgmppfabMLifeBoundsx4
namespace Go.Proofs.Ytkldfjlbgmppfab.MLifeBounds
open Go.RowKit Go.Proofs.YtkldfjlbgmppfabW.PrintWords Go.Proofs.YtkldfjlbgmppfabW.PrintLast Go.Proofs.YtkldfjlbgmppfabW.PrintMore
attribute [local go_sem] max2_int min2_int max_two min_two max_three min_three max_four min_four Wide.cell_twice  -- for this text's walks alone
set_option linter.unusedVariables false
set_option linter.unusedSimpArgs false

attribute [local go_sem high] eqA59
/-! ### millwrightlaw09_LifeBounds: function 12 -/
mutual
def millwrightlaw09_LifeBounds.l0 : Nat → Int → Int → List Int → Bool → Int → Int → Int → Int → Int → Int → Int → Option (Bool)
  | 0, _, _, _, _, _, _, _, _, _, _, _ => none
  | k + 1, x0, x1, x2, x7, x9, x442000, x442001, x442002, x442003, x442004, x442005 => if x9 < (x2.length : Int) then (millwrightlaw09_LifeBounds.j1 k x0 x1 x2 x7 x9 (decide (x9 < 300)) x442000 x442001 x442002 x442003 x442004 x442005) else (millwrightlaw09_LifeBounds.j1 k x0 x1 x2 x7 x9 false x442000 x442001 x442002 x442003 x442004 x442005)
def millwrightlaw09_LifeBounds.j1 : Nat → Int → Int → List Int → Bool → Int → Bool → Int → Int → Int → Int → Int → Int → Option (Bool)
  | 0, _, _, _, _, _, _, _, _, _, _, _, _ => none
  | k + 1, x0, x1, x2, x7, x9, x27, x442000, x442001, x442002, x442003, x442004, x442005 => if x27 = true then ((life_Life_State.f x442000 x442001 x442002 x442003 x442004 x442005).bind fun bt442 => ((life_Life_Epoch.f bt442.2.1 bt442.2.2.1 bt442.2.2.2.1 bt442.2.2.2.2.1 bt442.2.2.2.2.2.1 bt442.2.2.2.2.2.2).bind fun bt449 => ((life_Life_Missed.f bt449.2.1 bt449.2.2.1 bt449.2.2.2.1 bt449.2.2.2.2.1 bt449.2.2.2.2.2.1 bt449.2.2.2.2.2.2).bind fun bt456 => ((life_Life_Stopped.f bt456.2.1 bt456.2.2.1 bt456.2.2.2.1 bt456.2.2.2.2.1 bt456.2.2.2.2.2.1 bt456.2.2.2.2.2.2).bind fun bt463 => ((life_Life_Final.f bt463.2.1 bt463.2.2.1 bt463.2.2.2.1 bt463.2.2.2.2.1 bt463.2.2.2.2.2.1 bt463.2.2.2.2.2.2).bind fun bt471 => (if 0 ≤ x9 then (if x9 < (x2.length : Int) then ((millwrightlaw09_does.f k bt471.2.1 bt471.2.2.1 bt471.2.2.2.1 bt471.2.2.2.2.1 bt471.2.2.2.2.2.1 bt471.2.2.2.2.2.2 (wrap64 (Int.tmod (rd x2 x9) 11))).bind fun bt479 => ((life_Life_State.f bt479.2.1 bt479.2.2.1 bt479.2.2.2.1 bt479.2.2.2.2.1 bt479.2.2.2.2.2.1 bt479.2.2.2.2.2.2).bind fun bt486 => ((life_Life_Epoch.f bt486.2.1 bt486.2.2.1 bt486.2.2.2.1 bt486.2.2.2.2.1 bt486.2.2.2.2.2.1 bt486.2.2.2.2.2.2).bind fun bt493 => ((life_Life_Missed.f bt493.2.1 bt493.2.2.1 bt493.2.2.2.1 bt493.2.2.2.2.1 bt493.2.2.2.2.2.1 bt493.2.2.2.2.2.2).bind fun bt500 => ((life_Life_Stopped.f bt500.2.1 bt500.2.2.1 bt500.2.2.2.1 bt500.2.2.2.2.1 bt500.2.2.2.2.2.1 bt500.2.2.2.2.2.2).bind fun bt507 => (if bt479.1 = 0 then (if bt471.1 = true then (if bt479.1 = 8 then (millwrightlaw09_LifeBounds.j2 k x0 x1 x2 x7 x9 (!(bt442.1 == bt486.1) || (!(bt449.1 == bt493.1) || (!(bt456.1 == bt500.1) || (!(bt463.1 == bt507.1))))) bt507.2.1 bt507.2.2.1 bt507.2.2.2.1 bt507.2.2.2.2.1 bt507.2.2.2.2.2.1 bt507.2.2.2.2.2.2 bt442.1 bt449.1 bt456.1 bt463.1 bt486.1 bt493.1 bt500.1 bt507.1) else (millwrightlaw09_LifeBounds.j2 k x0 x1 x2 x7 x9 true bt507.2.1 bt507.2.2.1 bt507.2.2.2.1 bt507.2.2.2.2.1 bt507.2.2.2.2.2.1 bt507.2.2.2.2.2.2 bt442.1 bt449.1 bt456.1 bt463.1 bt486.1 bt493.1 bt500.1 bt507.1)) else (millwrightlaw09_LifeBounds.j2 k x0 x1 x2 x7 x9 false bt507.2.1 bt507.2.2.1 bt507.2.2.2.1 bt507.2.2.2.2.1 bt507.2.2.2.2.2.1 bt507.2.2.2.2.2.2 bt442.1 bt449.1 bt456.1 bt463.1 bt486.1 bt493.1 bt500.1 bt507.1)) else (if (!(bt442.1 == bt486.1) || (!(bt449.1 == bt493.1) || (!(bt456.1 == bt500.1) || (!(bt463.1 == bt507.1))))) = true then (millwrightlaw09_LifeBounds.j2 k x0 x1 x2 x7 x9 true bt507.2.1 bt507.2.2.1 bt507.2.2.2.1 bt507.2.2.2.2.1 bt507.2.2.2.2.2.1 bt507.2.2.2.2.2.2 bt442.1 bt449.1 bt456.1 bt463.1 bt486.1 bt493.1 bt500.1 bt507.1) else (if bt471.1 = true then (if bt479.1 = 8 then (millwrightlaw09_LifeBounds.j2 k x0 x1 x2 x7 x9 (!(bt442.1 == bt486.1) || (!(bt449.1 == bt493.1) || (!(bt456.1 == bt500.1) || (!(bt463.1 == bt507.1))))) bt507.2.1 bt507.2.2.1 bt507.2.2.2.1 bt507.2.2.2.2.1 bt507.2.2.2.2.2.1 bt507.2.2.2.2.2.2 bt442.1 bt449.1 bt456.1 bt463.1 bt486.1 bt493.1 bt500.1 bt507.1) else (millwrightlaw09_LifeBounds.j2 k x0 x1 x2 x7 x9 true bt507.2.1 bt507.2.2.1 bt507.2.2.2.1 bt507.2.2.2.2.1 bt507.2.2.2.2.2.1 bt507.2.2.2.2.2.2 bt442.1 bt449.1 bt456.1 bt463.1 bt486.1 bt493.1 bt500.1 bt507.1)) else (millwrightlaw09_LifeBounds.j2 k x0 x1 x2 x7 x9 false bt507.2.1 bt507.2.2.1 bt507.2.2.2.1 bt507.2.2.2.2.1 bt507.2.2.2.2.2.1 bt507.2.2.2.2.2.2 bt442.1 bt449.1 bt456.1 bt463.1 bt486.1 bt493.1 bt500.1 bt507.1))))))))) else (none)) else (none))))))) else (some x7)
def millwrightlaw09_LifeBounds.j2 : Nat → Int → Int → List Int → Bool → Int → Bool → Int → Int → Int → Int → Int → Int → Int → Int → Int → Int → Int → Int → Int → Int → Option (Bool)
  | 0, _, _, _, _, _, _, _, _, _, _, _, _, _, _, _, _, _, _, _, _ => none
  | k + 1, x0, x1, x2, x7, x9, x76, x442000, x442001, x442002, x442003, x442004, x442005, x471000, x471001, x471002, x471003, x515000, x515001, x515002, x515003 => if x76 = true then (some false) else (if x515000 < 0 then (some false) else (if x515000 > 7 then (some false) else (if x515002 > (mx x0 1) then (some false) else (if x515003 > (mx x1 0) then (some false) else (if (wrap64 (x515002 + x515003)) > x515001 then (some false) else (if x515001 < x471001 then (some false) else (if x515001 > (wrap64 (x471001 + 1)) then (some false) else (millwrightlaw09_LifeBounds.l0 k x0 x1 x2 x7 (wrap64 (x9 + 1)) x442000 x442001 x442002 x442003 x442004 x442005))))))))
end
def millwrightlaw09_LifeBounds.f (k : Nat) (a0 : Int) (a1 : Int) (l2 : List Int) : Option (Bool) := (millwrightlaw09_shown.f k).bind fun t434 => ((life_New.f a0 a1).bind fun bt435 => (millwrightlaw09_LifeBounds.l0 k a0 a1 l2 t434 0 bt435.1 bt435.2.1 bt435.2.2.1 bt435.2.2.2.1 bt435.2.2.2.2.1 bt435.2.2.2.2.2))
theorem millwrightlaw09_LifeBounds.mono_l : ∀ k, (∀ y0 y1 y2 y3 y4 y5 y6 y7 y8 y9 y10, LeO (millwrightlaw09_LifeBounds.l0 k y0 y1 y2 y3 y4 y5 y6 y7 y8 y9 y10) (millwrightlaw09_LifeBounds.l0 (k + 1) y0 y1 y2 y3 y4 y5 y6 y7 y8 y9 y10)) ∧ (∀ y0 y1 y2 y3 y4 y5 y6 y7 y8 y9 y10 y11, LeO (millwrightlaw09_LifeBounds.j1 k y0 y1 y2 y3 y4 y5 y6 y7 y8 y9 y10 y11) (millwrightlaw09_LifeBounds.j1 (k + 1) y0 y1 y2 y3 y4 y5 y6 y7 y8 y9 y10 y11)) ∧ (∀ y0 y1 y2 y3 y4 y5 y6 y7 y8 y9 y10 y11 y12 y13 y14 y15 y16 y17 y18 y19, LeO (millwrightlaw09_LifeBounds.j2 k y0 y1 y2 y3 y4 y5 y6 y7 y8 y9 y10 y11 y12 y13 y14 y15 y16 y17 y18 y19) (millwrightlaw09_LifeBounds.j2 (k + 1) y0 y1 y2 y3 y4 y5 y6 y7 y8 y9 y10 y11 y12 y13 y14 y15 y16 y17 y18 y19))
  | 0 => ⟨fun _ _ _ _ _ _ _ _ _ _ _ r h => by simp [millwrightlaw09_LifeBounds.l0] at h, fun _ _ _ _ _ _ _ _ _ _ _ _ r h => by simp [millwrightlaw09_LifeBounds.j1] at h, fun _ _ _ _ _ _ _ _ _ _ _ _ _ _ _ _ _ _ _ _ r h => by simp [millwrightlaw09_LifeBounds.j2] at h⟩
  | k + 1 => by
    obtain ⟨ih0, ih1, ih2⟩ := millwrightlaw09_LifeBounds.mono_l k
    refine ⟨?_, ?_, ?_⟩
    · intro y0 y1 y2 y3 y4 y5 y6 y7 y8 y9 y10
      unfold millwrightlaw09_LifeBounds.l0
      repeat' first
      | (with_reducible exact ih0 _ _ _ _ _ _ _ _ _ _ _)
      | (with_reducible exact ih1 _ _ _ _ _ _ _ _ _ _ _ _)
      | (with_reducible exact ih2 _ _ _ _ _ _ _ _ _ _ _ _ _ _ _ _ _ _ _ _)
      | (with_reducible exact millwrightlaw09_does.mono _ _ _ _ _ _ _ _)
      | (with_reducible exact millwrightlaw09_shown.mono _)
      | (with_reducible exact LeO.refl _)
      | (with_reducible exact LeO.none _)
      | (with_reducible refine LeO.ite ?_ ?_)
      | (with_reducible refine LeO.bind ?_ (fun _ => ?_))
      | exact ih0 _ _ _ _ _ _ _ _ _ _ _
      | exact ih1 _ _ _ _ _ _ _ _ _ _ _ _
      | exact ih2 _ _ _ _ _ _ _ _ _ _ _ _ _ _ _ _ _ _ _ _
      | exact millwrightlaw09_does.mono _ _ _ _ _ _ _ _
      | exact millwrightlaw09_shown.mono _
      | exact LeO.none _
      | refine LeO.ite ?_ ?_
      | refine LeO.bind ?_ (fun _ => ?_)
    · intro y0 y1 y2 y3 y4 y5 y6 y7 y8 y9 y10 y11
      unfold millwrightlaw09_LifeBounds.j1
      repeat' first
      | (with_reducible exact ih0 _ _ _ _ _ _ _ _ _ _ _)
      | (with_reducible exact ih1 _ _ _ _ _ _ _ _ _ _ _ _)
      | (with_reducible exact ih2 _ _ _ _ _ _ _ _ _ _ _ _ _ _ _ _ _ _ _ _)
      | (with_reducible exact millwrightlaw09_does.mono _ _ _ _ _ _ _ _)
      | (with_reducible exact millwrightlaw09_shown.mono _)
      | (with_reducible exact LeO.refl _)
      | (with_reducible exact LeO.none _)
      | (with_reducible refine LeO.ite ?_ ?_)
      | (with_reducible refine LeO.bind ?_ (fun _ => ?_))
      | exact ih0 _ _ _ _ _ _ _ _ _ _ _
      | exact ih1 _ _ _ _ _ _ _ _ _ _ _ _
      | exact ih2 _ _ _ _ _ _ _ _ _ _ _ _ _ _ _ _ _ _ _ _
      | exact millwrightlaw09_does.mono _ _ _ _ _ _ _ _
      | exact millwrightlaw09_shown.mono _
      | exact LeO.none _
      | refine LeO.ite ?_ ?_
      | refine LeO.bind ?_ (fun _ => ?_)
    · intro y0 y1 y2 y3 y4 y5 y6 y7 y8 y9 y10 y11 y12 y13 y14 y15 y16 y17 y18 y19
      unfold millwrightlaw09_LifeBounds.j2
      repeat' first
      | (with_reducible exact ih0 _ _ _ _ _ _ _ _ _ _ _)
      | (with_reducible exact ih1 _ _ _ _ _ _ _ _ _ _ _ _)
      | (with_reducible exact ih2 _ _ _ _ _ _ _ _ _ _ _ _ _ _ _ _ _ _ _ _)
      | (with_reducible exact millwrightlaw09_does.mono _ _ _ _ _ _ _ _)
      | (with_reducible exact millwrightlaw09_shown.mono _)
      | (with_reducible exact LeO.refl _)
      | (with_reducible exact LeO.none _)
      | (with_reducible refine LeO.ite ?_ ?_)
      | (with_reducible refine LeO.bind ?_ (fun _ => ?_))
      | exact ih0 _ _ _ _ _ _ _ _ _ _ _
      | exact ih1 _ _ _ _ _ _ _ _ _ _ _ _
      | exact ih2 _ _ _ _ _ _ _ _ _ _ _ _ _ _ _ _ _ _ _ _
      | exact millwrightlaw09_does.mono _ _ _ _ _ _ _ _
      | exact millwrightlaw09_shown.mono _
      | exact LeO.none _
      | refine LeO.ite ?_ ?_
      | refine LeO.bind ?_ (fun _ => ?_)
theorem millwrightlaw09_LifeBounds.mono : ∀ a0 a1 a2 k, LeO (millwrightlaw09_LifeBounds.f k a0 a1 a2) (millwrightlaw09_LifeBounds.f (k + 1) a0 a1 a2) := by
  intro a0 a1 a2 k
  obtain ⟨ih0, ih1, ih2⟩ := millwrightlaw09_LifeBounds.mono_l k
  unfold millwrightlaw09_LifeBounds.f
  repeat' first
      | (with_reducible exact ih0 _ _ _ _ _ _ _ _ _ _ _)
      | (with_reducible exact ih1 _ _ _ _ _ _ _ _ _ _ _ _)
      | (with_reducible exact ih2 _ _ _ _ _ _ _ _ _ _ _ _ _ _ _ _ _ _ _ _)
      | (with_reducible exact millwrightlaw09_does.mono _ _ _ _ _ _ _ _)
      | (with_reducible exact millwrightlaw09_shown.mono _)
      | (with_reducible exact LeO.refl _)
      | (with_reducible exact LeO.none _)
      | (with_reducible refine LeO.ite ?_ ?_)
      | (with_reducible refine LeO.bind ?_ (fun _ => ?_))
      | exact ih0 _ _ _ _ _ _ _ _ _ _ _
      | exact ih1 _ _ _ _ _ _ _ _ _ _ _ _
      | exact ih2 _ _ _ _ _ _ _ _ _ _ _ _ _ _ _ _ _ _ _ _
      | exact millwrightlaw09_does.mono _ _ _ _ _ _ _ _
      | exact millwrightlaw09_shown.mono _
      | exact LeO.none _
      | refine LeO.ite ?_ ?_
      | refine LeO.bind ?_ (fun _ => ?_)
set_option maxHeartbeats 8000000 in
set_option maxRecDepth 100000 in
theorem millwrightlaw09_LifeBounds.calls (k : Nat) (a0 : Int) (a1 : Int) (A2 : Option Addr) (c2 : Nat) (l2 : List Int) (w : World) (hr2 : Kd.C (Kd.int .u8) w A2 l2.length l2) (hc2 : l2.length ≤ c2) (h : millwrightlaw09_LifeBounds.f k a0 a1 l2 = some true) :
    Calls Try.prog 12 #[.int .i64 a0, .int .i64 a1, .slice A2 l2.length c2] w fun e w' => e = .returned (.bool true) ∧ Below w.heap.size w w' := by
  have hu59 := Try.underlying59
  have HR2 := Aside0.mk hr2
  have HC2 := Aside0.mk hc2
  clear hr2 hc2
  have HB := Aside0.mk (Below.refl w.heap.size w)
  have H : ((millwrightlaw09_shown.f k).bind fun t434 => ((life_New.f a0 a1).bind fun bt435 => (millwrightlaw09_LifeBounds.l0 k a0 a1 l2 t434 0 bt435.1 bt435.2.1 bt435.2.2.1 bt435.2.2.2.1 bt435.2.2.2.2.1 bt435.2.2.2.2.2))) = some true := h
  clear h
  replace H := Option.bind_eq_some_iff.mp H
  obtain ⟨t434, A40, H⟩ := H
  replace H : ((life_New.f a0 a1).bind fun bt435 => (millwrightlaw09_LifeBounds.l0 k a0 a1 l2 t434 0 bt435.1 bt435.2.1 bt435.2.2.1 bt435.2.2.2.1 bt435.2.2.2.2.1 bt435.2.2.2.2.2)) = some true := H
  have A4 := Aside0.mk A40
  clear A40
  replace H := Option.bind_eq_some_iff.mp H
  obtain ⟨⟨t435, t436, t437, t438, t439, t440⟩, A50, H⟩ := H
  replace H : (millwrightlaw09_LifeBounds.l0 k a0 a1 l2 t434 0 t435 t436 t437 t438 t439 t440) = some true := H
  have A5 := Aside0.mk A50
  clear A50
  have H' := Aside0.mk H
  clear H
  go_enter Try.func12, Try.ntmps12
  go_wp2_with (first | ((with_reducible refine gate_callee (f := 15) rfl ?_); refine goesL_ (some 14) rfl rfl Try.func15 (by kernel_rfl) rfl #[] rfl (by (try simp only [List.map_toArray, List.map_cons, List.map_nil]); first | done | rfl | (simp only [List.length_drop, List.length_take]; rfl)) ?_; (with_reducible refine (millwrightlaw09_shown.calls k  t434 _ A4.out).mono ?_); rintro e w6 ⟨rfl, hb⟩; refine ⟨_, rfl, ?_⟩; have n0_ := Aside0.mk (below_step (by repeat (first | (with_reducible first | exact HB.out | apply below_alloc | apply pw_below_drewN | apply below_drew1) | exact HB.out)) hb); clear HB; have HB := n0_; clear n0_; (try clear hb); (try clear hb2); (try clear hk); (try clear hi)) | ((with_reducible refine gate_callee (f := 16) rfl ?_); refine goesL_ (some 17) rfl rfl Try.func16 (by kernel_rfl) rfl #[.int .i64 a0, .int .i64 a1] rfl (by (try simp only [List.map_toArray, List.map_cons, List.map_nil]); first | done | rfl | (simp only [List.length_drop, List.length_take]; rfl)) ?_; (with_reducible refine (life_New.calls a0 a1 t435 t436 t437 t438 t439 t440 w _ ?side1 A5.out).mono ?_); (case side1 => repeat (first | (with_reducible first | exact HB.out | apply below_alloc | apply pw_below_drewN | apply below_drew1) | exact HB.out)); rintro e w7 ⟨g441, rfl, hi, hb, hb2⟩; refine ⟨_, rfl, ?_⟩; have n0_ := Aside0.mk (hb); have n1_ := Aside0.mk (hi); clear HB; have HB := n0_; have HI441 := n1_; clear n0_ n1_; (try clear hb); (try clear hb2); (try clear hk); (try clear hi)))
  go_loopg [9] k (fun kq v9 w' => ∃ (x9_1 : Int) (x442000_1 : Int) (x442001_1 : Int) (x442002_1 : Int) (x442003_1 : Int) (x442004_1 : Int) (x442005_1 : Int), v9 = .int .i64 x9_1 ∧ Aside0 (millwrightlaw09_LifeBounds.l0 kq a0 a1 l2 t434 x9_1 x442000_1 x442001_1 x442002_1 x442003_1 x442004_1 x442005_1 = some true) ∧ Aside0 (kq ≤ k) ∧ Aside0 (IsS62 w w' g441 x442000_1 x442001_1 x442002_1 x442003_1 x442004_1 x442005_1) ∧ Aside0 (Below w.heap.size w w'))
  case atStart => exact ⟨(0), (t435), (t436), (t437), (t438), (t439), (t440), (by first | rfl | (simp; done) | (simp [*]; done)), H', ⟨Nat.le_refl _⟩, ⟨by repeat (first | (with_reducible first | exact HI441.out | apply IsS62.alloc | apply IsS62.drewN | apply IsS62.drew | apply IsS62.set_0 | apply IsS62.set_1 | apply IsS62.set_2 | apply IsS62.set_3 | apply IsS62.set_4 | apply IsS62.set_5) | exact HI441.out)⟩, ⟨by repeat (first | (with_reducible first | exact HB.out | apply below_alloc | apply pw_below_drewN | apply below_drew1 | refine below_set ?_ (IsS62.ge HI441.out)) | exact HB.out)⟩⟩
  case round =>
    clear H'
    try clear c1
    try clear c2
    try clear p2
    obtain ⟨x9_1, x442000_1, x442001_1, x442002_1, x442003_1, x442004_1, x442005_1, rfl, HA, HK1, HI441, HB⟩ := hrel
    cases gk with
    | zero => exact absurd HA.out (by simp [millwrightlaw09_LifeBounds.l0])
    | succ k1 =>
      have H := HA.out
      clear HA
      simp only [millwrightlaw09_LifeBounds.l0] at H
      have HC8 := Aside0.mk H
      clear H
      go_upto_region 6 with (fail)
      go_cut [27] (fun v27 wc => ∃ (kq : Nat) (x27_7 : Bool), v27 = .bool x27_7 ∧ Aside0 (millwrightlaw09_LifeBounds.j1 kq a0 a1 l2 t434 x9_1 x27_7 x442000_1 x442001_1 x442002_1 x442003_1 x442004_1 x442005_1 = some true) ∧ Aside0 (kq ≤ k1) ∧ Aside0 (IsS62 w wc g441 x442000_1 x442001_1 x442002_1 x442003_1 x442004_1 x442005_1) ∧ Aside0 (Below w.heap.size w wc))
      case first =>
        have H := HC8.out
        clear HC8
        by_cases c9 : x9_1 < (l2.length : Int)
        · rw [if_pos c9] at H
          have c9b0 : decide (x9_1 < (l2.length : Int)) = true := decide_eq_true c9
          clear c9
          (first | rw [c9b0] | (simp only [i64_w, i32_w]; rw [c9b0]) | skip)
          have H' := Aside0.mk H
          clear H
          go_wp2
          first | go_meet | (refine Met.intro ?_; go_step; (try rw [c9b0]); (repeat apply Exists.intro); refine ⟨?rel, rfl⟩)
          case rel => exact ⟨_, (decide (x9_1 < 300)), (by first | rfl | (simp; done) | (simp [*]; done)), H', ⟨by have := HK1.out; first | omega | exact Nat.le_refl _⟩, ⟨by repeat (first | (with_reducible first | exact HI441.out | apply IsS62.alloc | apply IsS62.drewN | apply IsS62.drew | apply IsS62.set_0 | apply IsS62.set_1 | apply IsS62.set_2 | apply IsS62.set_3 | apply IsS62.set_4 | apply IsS62.set_5) | exact HI441.out)⟩, ⟨by repeat (first | (with_reducible first | exact HB.out | apply below_alloc | apply pw_below_drewN | apply below_drew1 | refine below_set ?_ (IsS62.ge HI441.out)) | exact HB.out)⟩⟩
        · rw [if_neg c9] at H
          have c9b0 : decide (x9_1 < (l2.length : Int)) = false := decide_eq_false c9
          clear c9
          (first | rw [c9b0] | (simp only [i64_w, i32_w]; rw [c9b0]) | skip)
          have H' := Aside0.mk H
          clear H
          go_wp2
          first | go_meet | (refine Met.intro ?_; go_step; (try rw [c9b0]); (repeat apply Exists.intro); refine ⟨?rel, rfl⟩)
          case rel => exact ⟨_, (false), (by first | rfl | (simp; done) | (simp [*]; done)), H', ⟨by have := HK1.out; first | omega | exact Nat.le_refl _⟩, ⟨by repeat (first | (with_reducible first | exact HI441.out | apply IsS62.alloc | apply IsS62.drewN | apply IsS62.drew | apply IsS62.set_0 | apply IsS62.set_1 | apply IsS62.set_2 | apply IsS62.set_3 | apply IsS62.set_4 | apply IsS62.set_5) | exact HI441.out)⟩, ⟨by repeat (first | (with_reducible first | exact HB.out | apply below_alloc | apply pw_below_drewN | apply below_drew1 | refine below_set ?_ (IsS62.ge HI441.out)) | exact HB.out)⟩⟩
      case rest =>
        clear HC8
        try clear c1
        try clear c2
        try clear p2
        try clear c9
        try clear c9b0
        try clear p2
        obtain ⟨kq, x27_7, rfl, HA, HJ7, HI441, HB⟩ := hcut
        cases kq with
        | zero => exact absurd HA.out (by simp [millwrightlaw09_LifeBounds.j1])
        | succ kj7 =>
          have H := HA.out
          clear HA
          simp only [millwrightlaw09_LifeBounds.j1] at H
          by_cases c10 : x27_7 = true
          · subst c10
            have H1 : ((life_Life_State.f x442000_1 x442001_1 x442002_1 x442003_1 x442004_1 x442005_1).bind fun bt442 => ((life_Life_Epoch.f bt442.2.1 bt442.2.2.1 bt442.2.2.2.1 bt442.2.2.2.2.1 bt442.2.2.2.2.2.1 bt442.2.2.2.2.2.2).bind fun bt449 => ((life_Life_Missed.f bt449.2.1 bt449.2.2.1 bt449.2.2.2.1 bt449.2.2.2.2.1 bt449.2.2.2.2.2.1 bt449.2.2.2.2.2.2).bind fun bt456 => ((life_Life_Stopped.f bt456.2.1 bt456.2.2.1 bt456.2.2.2.1 bt456.2.2.2.2.1 bt456.2.2.2.2.2.1 bt456.2.2.2.2.2.2).bind fun bt463 => ((life_Life_Final.f bt463.2.1 bt463.2.2.1 bt463.2.2.2.1 bt463.2.2.2.2.1 bt463.2.2.2.2.2.1 bt463.2.2.2.2.2.2).bind fun bt471 => (if 0 ≤ x9_1 then (if x9_1 < (l2.length : Int) then ((millwrightlaw09_does.f kj7 bt471.2.1 bt471.2.2.1 bt471.2.2.2.1 bt471.2.2.2.2.1 bt471.2.2.2.2.2.1 bt471.2.2.2.2.2.2 (wrap64 (Int.tmod (rd l2 x9_1) 11))).bind fun bt479 => ((life_Life_State.f bt479.2.1 bt479.2.2.1 bt479.2.2.2.1 bt479.2.2.2.2.1 bt479.2.2.2.2.2.1 bt479.2.2.2.2.2.2).bind fun bt486 => ((life_Life_Epoch.f bt486.2.1 bt486.2.2.1 bt486.2.2.2.1 bt486.2.2.2.2.1 bt486.2.2.2.2.2.1 bt486.2.2.2.2.2.2).bind fun bt493 => ((life_Life_Missed.f bt493.2.1 bt493.2.2.1 bt493.2.2.2.1 bt493.2.2.2.2.1 bt493.2.2.2.2.2.1 bt493.2.2.2.2.2.2).bind fun bt500 => ((life_Life_Stopped.f bt500.2.1 bt500.2.2.1 bt500.2.2.2.1 bt500.2.2.2.2.1 bt500.2.2.2.2.2.1 bt500.2.2.2.2.2.2).bind fun bt507 => (if bt479.1 = 0 then (if bt471.1 = true then (if bt479.1 = 8 then (millwrightlaw09_LifeBounds.j2 kj7 a0 a1 l2 t434 x9_1 (!(bt442.1 == bt486.1) || (!(bt449.1 == bt493.1) || (!(bt456.1 == bt500.1) || (!(bt463.1 == bt507.1))))) bt507.2.1 bt507.2.2.1 bt507.2.2.2.1 bt507.2.2.2.2.1 bt507.2.2.2.2.2.1 bt507.2.2.2.2.2.2 bt442.1 bt449.1 bt456.1 bt463.1 bt486.1 bt493.1 bt500.1 bt507.1) else (millwrightlaw09_LifeBounds.j2 kj7 a0 a1 l2 t434 x9_1 true bt507.2.1 bt507.2.2.1 bt507.2.2.2.1 bt507.2.2.2.2.1 bt507.2.2.2.2.2.1 bt507.2.2.2.2.2.2 bt442.1 bt449.1 bt456.1 bt463.1 bt486.1 bt493.1 bt500.1 bt507.1)) else (millwrightlaw09_LifeBounds.j2 kj7 a0 a1 l2 t434 x9_1 false bt507.2.1 bt507.2.2.1 bt507.2.2.2.1 bt507.2.2.2.2.1 bt507.2.2.2.2.2.1 bt507.2.2.2.2.2.2 bt442.1 bt449.1 bt456.1 bt463.1 bt486.1 bt493.1 bt500.1 bt507.1)) else (if (!(bt442.1 == bt486.1) || (!(bt449.1 == bt493.1) || (!(bt456.1 == bt500.1) || (!(bt463.1 == bt507.1))))) = true then (millwrightlaw09_LifeBounds.j2 kj7 a0 a1 l2 t434 x9_1 true bt507.2.1 bt507.2.2.1 bt507.2.2.2.1 bt507.2.2.2.2.1 bt507.2.2.2.2.2.1 bt507.2.2.2.2.2.2 bt442.1 bt449.1 bt456.1 bt463.1 bt486.1 bt493.1 bt500.1 bt507.1) else (if bt471.1 = true then (if bt479.1 = 8 then (millwrightlaw09_LifeBounds.j2 kj7 a0 a1 l2 t434 x9_1 (!(bt442.1 == bt486.1) || (!(bt449.1 == bt493.1) || (!(bt456.1 == bt500.1) || (!(bt463.1 == bt507.1))))) bt507.2.1 bt507.2.2.1 bt507.2.2.2.1 bt507.2.2.2.2.1 bt507.2.2.2.2.2.1 bt507.2.2.2.2.2.2 bt442.1 bt449.1 bt456.1 bt463.1 bt486.1 bt493.1 bt500.1 bt507.1) else (millwrightlaw09_LifeBounds.j2 kj7 a0 a1 l2 t434 x9_1 true bt507.2.1 bt507.2.2.1 bt507.2.2.2.1 bt507.2.2.2.2.1 bt507.2.2.2.2.2.1 bt507.2.2.2.2.2.2 bt442.1 bt449.1 bt456.1 bt463.1 bt486.1 bt493.1 bt500.1 bt507.1)) else (millwrightlaw09_LifeBounds.j2 kj7 a0 a1 l2 t434 x9_1 false bt507.2.1 bt507.2.2.1 bt507.2.2.2.1 bt507.2.2.2.2.1 bt507.2.2.2.2.2.1 bt507.2.2.2.2.2.2 bt442.1 bt449.1 bt456.1 bt463.1 bt486.1 bt493.1 bt500.1 bt507.1))))))))) else (none)) else (none))))))) = some true := by rw [if_pos rfl] at H; exact H
            clear H
            have H := H1
            clear H1
            replace H := Option.bind_eq_some_iff.mp H
            obtain ⟨⟨t442, t443, t444, t445, t446, t447, t448⟩, A110, H⟩ := H
            replace H : ((life_Life_Epoch.f t443 t444 t445 t446 t447 t448).bind fun bt449 => ((life_Life_Missed.f bt449.2.1 bt449.2.2.1 bt449.2.2.2.1 bt449.2.2.2.2.1 bt449.2.2.2.2.2.1 bt449.2.2.2.2.2.2).bind fun bt456 => ((life_Life_Stopped.f bt456.2.1 bt456.2.2.1 bt456.2.2.2.1 bt456.2.2.2.2.1 bt456.2.2.2.2.2.1 bt456.2.2.2.2.2.2).bind fun bt463 => ((life_Life_Final.f bt463.2.1 bt463.2.2.1 bt463.2.2.2.1 bt463.2.2.2.2.1 bt463.2.2.2.2.2.1 bt463.2.2.2.2.2.2).bind fun bt471 => (if 0 ≤ x9_1 then (if x9_1 < (l2.length : Int) then ((millwrightlaw09_does.f kj7 bt471.2.1 bt471.2.2.1 bt471.2.2.2.1 bt471.2.2.2.2.1 bt471.2.2.2.2.2.1 bt471.2.2.2.2.2.2 (wrap64 (Int.tmod (rd l2 x9_1) 11))).bind fun bt479 => ((life_Life_State.f bt479.2.1 bt479.2.2.1 bt479.2.2.2.1 bt479.2.2.2.2.1 bt479.2.2.2.2.2.1 bt479.2.2.2.2.2.2).bind fun bt486 => ((life_Life_Epoch.f bt486.2.1 bt486.2.2.1 bt486.2.2.2.1 bt486.2.2.2.2.1 bt486.2.2.2.2.2.1 bt486.2.2.2.2.2.2).bind fun bt493 => ((life_Life_Missed.f bt493.2.1 bt493.2.2.1 bt493.2.2.2.1 bt493.2.2.2.2.1 bt493.2.2.2.2.2.1 bt493.2.2.2.2.2.2).bind fun bt500 => ((life_Life_Stopped.f bt500.2.1 bt500.2.2.1 bt500.2.2.2.1 bt500.2.2.2.2.1 bt500.2.2.2.2.2.1 bt500.2.2.2.2.2.2).bind fun bt507 => (if bt479.1 = 0 then (if bt471.1 = true then (if bt479.1 = 8 then (millwrightlaw09_LifeBounds.j2 kj7 a0 a1 l2 t434 x9_1 (!(t442 == bt486.1) || (!(bt449.1 == bt493.1) || (!(bt456.1 == bt500.1) || (!(bt463.1 == bt507.1))))) bt507.2.1 bt507.2.2.1 bt507.2.2.2.1 bt507.2.2.2.2.1 bt507.2.2.2.2.2.1 bt507.2.2.2.2.2.2 t442 bt449.1 bt456.1 bt463.1 bt486.1 bt493.1 bt500.1 bt507.1) else (millwrightlaw09_LifeBounds.j2 kj7 a0 a1 l2 t434 x9_1 true bt507.2.1 bt507.2.2.1 bt507.2.2.2.1 bt507.2.2.2.2.1 bt507.2.2.2.2.2.1 bt507.2.2.2.2.2.2 t442 bt449.1 bt456.1 bt463.1 bt486.1 bt493.1 bt500.1 bt507.1)) else (millwrightlaw09_LifeBounds.j2 kj7 a0 a1 l2 t434 x9_1 false bt507.2.1 bt507.2.2.1 bt507.2.2.2.1 bt507.2.2.2.2.1 bt507.2.2.2.2.2.1 bt507.2.2.2.2.2.2 t442 bt449.1 bt456.1 bt463.1 bt486.1 bt493.1 bt500.1 bt507.1)) else (if (!(t442 == bt486.1) || (!(bt449.1 == bt493.1) || (!(bt456.1 == bt500.1) || (!(bt463.1 == bt507.1))))) = true then (millwrightlaw09_LifeBounds.j2 kj7 a0 a1 l2 t434 x9_1 true bt507.2.1 bt507.2.2.1 bt507.2.2.2.1 bt507.2.2.2.2.1 bt507.2.2.2.2.2.1 bt507.2.2.2.2.2.2 t442 bt449.1 bt456.1 bt463.1 bt486.1 bt493.1 bt500.1 bt507.1) else (if bt471.1 = true then (if bt479.1 = 8 then (millwrightlaw09_LifeBounds.j2 kj7 a0 a1 l2 t434 x9_1 (!(t442 == bt486.1) || (!(bt449.1 == bt493.1) || (!(bt456.1 == bt500.1) || (!(bt463.1 == bt507.1))))) bt507.2.1 bt507.2.2.1 bt507.2.2.2.1 bt507.2.2.2.2.1 bt507.2.2.2.2.2.1 bt507.2.2.2.2.2.2 t442 bt449.1 bt456.1 bt463.1 bt486.1 bt493.1 bt500.1 bt507.1) else (millwrightlaw09_LifeBounds.j2 kj7 a0 a1 l2 t434 x9_1 true bt507.2.1 bt507.2.2.1 bt507.2.2.2.1 bt507.2.2.2.2.1 bt507.2.2.2.2.2.1 bt507.2.2.2.2.2.2 t442 bt449.1 bt456.1 bt463.1 bt486.1 bt493.1 bt500.1 bt507.1)) else (millwrightlaw09_LifeBounds.j2 kj7 a0 a1 l2 t434 x9_1 false bt507.2.1 bt507.2.2.1 bt507.2.2.2.1 bt507.2.2.2.2.1 bt507.2.2.2.2.2.1 bt507.2.2.2.2.2.2 t442 bt449.1 bt456.1 bt463.1 bt486.1 bt493.1 bt500.1 bt507.1))))))))) else (none)) else (none)))))) = some true := H
            have A11 := Aside0.mk A110
            clear A110
            replace H := Option.bind_eq_some_iff.mp H
            obtain ⟨⟨t449, t450, t451, t452, t453, t454, t455⟩, A120, H⟩ := H
            replace H : ((life_Life_Missed.f t450 t451 t452 t453 t454 t455).bind fun bt456 => ((life_Life_Stopped.f bt456.2.1 bt456.2.2.1 bt456.2.2.2.1 bt456.2.2.2.2.1 bt456.2.2.2.2.2.1 bt456.2.2.2.2.2.2).bind fun bt463 => ((life_Life_Final.f bt463.2.1 bt463.2.2.1 bt463.2.2.2.1 bt463.2.2.2.2.1 bt463.2.2.2.2.2.1 bt463.2.2.2.2.2.2).bind fun bt471 => (if 0 ≤ x9_1 then (if x9_1 < (l2.length : Int) then ((millwrightlaw09_does.f kj7 bt471.2.1 bt471.2.2.1 bt471.2.2.2.1 bt471.2.2.2.2.1 bt471.2.2.2.2.2.1 bt471.2.2.2.2.2.2 (wrap64 (Int.tmod (rd l2 x9_1) 11))).bind fun bt479 => ((life_Life_State.f bt479.2.1 bt479.2.2.1 bt479.2.2.2.1 bt479.2.2.2.2.1 bt479.2.2.2.2.2.1 bt479.2.2.2.2.2.2).bind fun bt486 => ((life_Life_Epoch.f bt486.2.1 bt486.2.2.1 bt486.2.2.2.1 bt486.2.2.2.2.1 bt486.2.2.2.2.2.1 bt486.2.2.2.2.2.2).bind fun bt493 => ((life_Life_Missed.f bt493.2.1 bt493.2.2.1 bt493.2.2.2.1 bt493.2.2.2.2.1 bt493.2.2.2.2.2.1 bt493.2.2.2.2.2.2).bind fun bt500 => ((life_Life_Stopped.f bt500.2.1 bt500.2.2.1 bt500.2.2.2.1 bt500.2.2.2.2.1 bt500.2.2.2.2.2.1 bt500.2.2.2.2.2.2).bind fun bt507 => (if bt479.1 = 0 then (if bt471.1 = true then (if bt479.1 = 8 then (millwrightlaw09_LifeBounds.j2 kj7 a0 a1 l2 t434 x9_1 (!(t442 == bt486.1) || (!(t449 == bt493.1) || (!(bt456.1 == bt500.1) || (!(bt463.1 == bt507.1))))) bt507.2.1 bt507.2.2.1 bt507.2.2.2.1 bt507.2.2.2.2.1 bt507.2.2.2.2.2.1 bt507.2.2.2.2.2.2 t442 t449 bt456.1 bt463.1 bt486.1 bt493.1 bt500.1 bt507.1) else (millwrightlaw09_LifeBounds.j2 kj7 a0 a1 l2 t434 x9_1 true bt507.2.1 bt507.2.2.1 bt507.2.2.2.1 bt507.2.2.2.2.1 bt507.2.2.2.2.2.1 bt507.2.2.2.2.2.2 t442 t449 bt456.1 bt463.1 bt486.1 bt493.1 bt500.1 bt507.1)) else (millwrightlaw09_LifeBounds.j2 kj7 a0 a1 l2 t434 x9_1 false bt507.2.1 bt507.2.2.1 bt507.2.2.2.1 bt507.2.2.2.2.1 bt507.2.2.2.2.2.1 bt507.2.2.2.2.2.2 t442 t449 bt456.1 bt463.1 bt486.1 bt493.1 bt500.1 bt507.1)) else (if (!(t442 == bt486.1) || (!(t449 == bt493.1) || (!(bt456.1 == bt500.1) || (!(bt463.1 == bt507.1))))) = true then (millwrightlaw09_LifeBounds.j2 kj7 a0 a1 l2 t434 x9_1 true bt507.2.1 bt507.2.2.1 bt507.2.2.2.1 bt507.2.2.2.2.1 bt507.2.2.2.2.2.1 bt507.2.2.2.2.2.2 t442 t449 bt456.1 bt463.1 bt486.1 bt493.1 bt500.1 bt507.1) else (if bt471.1 = true then (if bt479.1 = 8 then (millwrightlaw09_LifeBounds.j2 kj7 a0 a1 l2 t434 x9_1 (!(t442 == bt486.1) || (!(t449 == bt493.1) || (!(bt456.1 == bt500.1) || (!(bt463.1 == bt507.1))))) bt507.2.1 bt507.2.2.1 bt507.2.2.2.1 bt507.2.2.2.2.1 bt507.2.2.2.2.2.1 bt507.2.2.2.2.2.2 t442 t449 bt456.1 bt463.1 bt486.1 bt493.1 bt500.1 bt507.1) else (millwrightlaw09_LifeBounds.j2 kj7 a0 a1 l2 t434 x9_1 true bt507.2.1 bt507.2.2.1 bt507.2.2.2.1 bt507.2.2.2.2.1 bt507.2.2.2.2.2.1 bt507.2.2.2.2.2.2 t442 t449 bt456.1 bt463.1 bt486.1 bt493.1 bt500.1 bt507.1)) else (millwrightlaw09_LifeBounds.j2 kj7 a0 a1 l2 t434 x9_1 false bt507.2.1 bt507.2.2.1 bt507.2.2.2.1 bt507.2.2.2.2.1 bt507.2.2.2.2.2.1 bt507.2.2.2.2.2.2 t442 t449 bt456.1 bt463.1 bt486.1 bt493.1 bt500.1 bt507.1))))))))) else (none)) else (none))))) = some true := H
            have A12 := Aside0.mk A120
            clear A120
            replace H := Option.bind_eq_some_iff.mp H
            obtain ⟨⟨t456, t457, t458, t459, t460, t461, t462⟩, A130, H⟩ := H
            replace H : ((life_Life_Stopped.f t457 t458 t459 t460 t461 t462).bind fun bt463 => ((life_Life_Final.f bt463.2.1 bt463.2.2.1 bt463.2.2.2.1 bt463.2.2.2.2.1 bt463.2.2.2.2.2.1 bt463.2.2.2.2.2.2).bind fun bt471 => (if 0 ≤ x9_1 then (if x9_1 < (l2.length : Int) then ((millwrightlaw09_does.f kj7 bt471.2.1 bt471.2.2.1 bt471.2.2.2.1 bt471.2.2.2.2.1 bt471.2.2.2.2.2.1 bt471.2.2.2.2.2.2 (wrap64 (Int.tmod (rd l2 x9_1) 11))).bind fun bt479 => ((life_Life_State.f bt479.2.1 bt479.2.2.1 bt479.2.2.2.1 bt479.2.2.2.2.1 bt479.2.2.2.2.2.1 bt479.2.2.2.2.2.2).bind fun bt486 => ((life_Life_Epoch.f bt486.2.1 bt486.2.2.1 bt486.2.2.2.1 bt486.2.2.2.2.1 bt486.2.2.2.2.2.1 bt486.2.2.2.2.2.2).bind fun bt493 => ((life_Life_Missed.f bt493.2.1 bt493.2.2.1 bt493.2.2.2.1 bt493.2.2.2.2.1 bt493.2.2.2.2.2.1 bt493.2.2.2.2.2.2).bind fun bt500 => ((life_Life_Stopped.f bt500.2.1 bt500.2.2.1 bt500.2.2.2.1 bt500.2.2.2.2.1 bt500.2.2.2.2.2.1 bt500.2.2.2.2.2.2).bind fun bt507 => (if bt479.1 = 0 then (if bt471.1 = true then (if bt479.1 = 8 then (millwrightlaw09_LifeBounds.j2 kj7 a0 a1 l2 t434 x9_1 (!(t442 == bt486.1) || (!(t449 == bt493.1) || (!(t456 == bt500.1) || (!(bt463.1 == bt507.1))))) bt507.2.1 bt507.2.2.1 bt507.2.2.2.1 bt507.2.2.2.2.1 bt507.2.2.2.2.2.1 bt507.2.2.2.2.2.2 t442 t449 t456 bt463.1 bt486.1 bt493.1 bt500.1 bt507.1) else (millwrightlaw09_LifeBounds.j2 kj7 a0 a1 l2 t434 x9_1 true bt507.2.1 bt507.2.2.1 bt507.2.2.2.1 bt507.2.2.2.2.1 bt507.2.2.2.2.2.1 bt507.2.2.2.2.2.2 t442 t449 t456 bt463.1 bt486.1 bt493.1 bt500.1 bt507.1)) else (millwrightlaw09_LifeBounds.j2 kj7 a0 a1 l2 t434 x9_1 false bt507.2.1 bt507.2.2.1 bt507.2.2.2.1 bt507.2.2.2.2.1 bt507.2.2.2.2.2.1 bt507.2.2.2.2.2.2 t442 t449 t456 bt463.1 bt486.1 bt493.1 bt500.1 bt507.1)) else (if (!(t442 == bt486.1) || (!(t449 == bt493.1) || (!(t456 == bt500.1) || (!(bt463.1 == bt507.1))))) = true then (millwrightlaw09_LifeBounds.j2 kj7 a0 a1 l2 t434 x9_1 true bt507.2.1 bt507.2.2.1 bt507.2.2.2.1 bt507.2.2.2.2.1 bt507.2.2.2.2.2.1 bt507.2.2.2.2.2.2 t442 t449 t456 bt463.1 bt486.1 bt493.1 bt500.1 bt507.1) else (if bt471.1 = true then (if bt479.1 = 8 then (millwrightlaw09_LifeBounds.j2 kj7 a0 a1 l2 t434 x9_1 (!(t442 == bt486.1) || (!(t449 == bt493.1) || (!(t456 == bt500.1) || (!(bt463.1 == bt507.1))))) bt507.2.1 bt507.2.2.1 bt507.2.2.2.1 bt507.2.2.2.2.1 bt507.2.2.2.2.2.1 bt507.2.2.2.2.2.2 t442 t449 t456 bt463.1 bt486.1 bt493.1 bt500.1 bt507.1) else (millwrightlaw09_LifeBounds.j2 kj7 a0 a1 l2 t434 x9_1 true bt507.2.1 bt507.2.2.1 bt507.2.2.2.1 bt507.2.2.2.2.1 bt507.2.2.2.2.2.1 bt507.2.2.2.2.2.2 t442 t449 t456 bt463.1 bt486.1 bt493.1 bt500.1 bt507.1)) else (millwrightlaw09_LifeBounds.j2 kj7 a0 a1 l2 t434 x9_1 false bt507.2.1 bt507.2.2.1 bt507.2.2.2.1 bt507.2.2.2.2.1 bt507.2.2.2.2.2.1 bt507.2.2.2.2.2.2 t442 t449 t456 bt463.1 bt486.1 bt493.1 bt500.1 bt507.1))))))))) else (none)) else (none)))) = some true := H
            have A13 := Aside0.mk A130
            clear A130
            replace H := Option.bind_eq_some_iff.mp H
            obtain ⟨⟨t463, t464, t465, t466, t467, t468, t469⟩, A140, H⟩ := H
            replace H : ((life_Life_Final.f t464 t465 t466 t467 t468 t469).bind fun bt471 => (if 0 ≤ x9_1 then (if x9_1 < (l2.length : Int) then ((millwrightlaw09_does.f kj7 bt471.2.1 bt471.2.2.1 bt471.2.2.2.1 bt471.2.2.2.2.1 bt471.2.2.2.2.2.1 bt471.2.2.2.2.2.2 (wrap64 (Int.tmod (rd l2 x9_1) 11))).bind fun bt479 => ((life_Life_State.f bt479.2.1 bt479.2.2.1 bt479.2.2.2.1 bt479.2.2.2.2.1 bt479.2.2.2.2.2.1 bt479.2.2.2.2.2.2).bind fun bt486 => ((life_Life_Epoch.f bt486.2.1 bt486.2.2.1 bt486.2.2.2.1 bt486.2.2.2.2.1 bt486.2.2.2.2.2.1 bt486.2.2.2.2.2.2).bind fun bt493 => ((life_Life_Missed.f bt493.2.1 bt493.2.2.1 bt493.2.2.2.1 bt493.2.2.2.2.1 bt493.2.2.2.2.2.1 bt493.2.2.2.2.2.2).bind fun bt500 => ((life_Life_Stopped.f bt500.2.1 bt500.2.2.1 bt500.2.2.2.1 bt500.2.2.2.2.1 bt500.2.2.2.2.2.1 bt500.2.2.2.2.2.2).bind fun bt507 => (if bt479.1 = 0 then (if bt471.1 = true then (if bt479.1 = 8 then (millwrightlaw09_LifeBounds.j2 kj7 a0 a1 l2 t434 x9_1 (!(t442 == bt486.1) || (!(t449 == bt493.1) || (!(t456 == bt500.1) || (!(t463 == bt507.1))))) bt507.2.1 bt507.2.2.1 bt507.2.2.2.1 bt507.2.2.2.2.1 bt507.2.2.2.2.2.1 bt507.2.2.2.2.2.2 t442 t449 t456 t463 bt486.1 bt493.1 bt500.1 bt507.1) else (millwrightlaw09_LifeBounds.j2 kj7 a0 a1 l2 t434 x9_1 true bt507.2.1 bt507.2.2.1 bt507.2.2.2.1 bt507.2.2.2.2.1 bt507.2.2.2.2.2.1 bt507.2.2.2.2.2.2 t442 t449 t456 t463 bt486.1 bt493.1 bt500.1 bt507.1)) else (millwrightlaw09_LifeBounds.j2 kj7 a0 a1 l2 t434 x9_1 false bt507.2.1 bt507.2.2.1 bt507.2.2.2.1 bt507.2.2.2.2.1 bt507.2.2.2.2.2.1 bt507.2.2.2.2.2.2 t442 t449 t456 t463 bt486.1 bt493.1 bt500.1 bt507.1)) else (if (!(t442 == bt486.1) || (!(t449 == bt493.1) || (!(t456 == bt500.1) || (!(t463 == bt507.1))))) = true then (millwrightlaw09_LifeBounds.j2 kj7 a0 a1 l2 t434 x9_1 true bt507.2.1 bt507.2.2.1 bt507.2.2.2.1 bt507.2.2.2.2.1 bt507.2.2.2.2.2.1 bt507.2.2.2.2.2.2 t442 t449 t456 t463 bt486.1 bt493.1 bt500.1 bt507.1) else (if bt471.1 = true then (if bt479.1 = 8 then (millwrightlaw09_LifeBounds.j2 kj7 a0 a1 l2 t434 x9_1 (!(t442 == bt486.1) || (!(t449 == bt493.1) || (!(t456 == bt500.1) || (!(t463 == bt507.1))))) bt507.2.1 bt507.2.2.1 bt507.2.2.2.1 bt507.2.2.2.2.1 bt507.2.2.2.2.2.1 bt507.2.2.2.2.2.2 t442 t449 t456 t463 bt486.1 bt493.1 bt500.1 bt507.1) else (millwrightlaw09_LifeBounds.j2 kj7 a0 a1 l2 t434 x9_1 true bt507.2.1 bt507.2.2.1 bt507.2.2.2.1 bt507.2.2.2.2.1 bt507.2.2.2.2.2.1 bt507.2.2.2.2.2.2 t442 t449 t456 t463 bt486.1 bt493.1 bt500.1 bt507.1)) else (millwrightlaw09_LifeBounds.j2 kj7 a0 a1 l2 t434 x9_1 false bt507.2.1 bt507.2.2.1 bt507.2.2.2.1 bt507.2.2.2.2.1 bt507.2.2.2.2.2.1 bt507.2.2.2.2.2.2 t442 t449 t456 t463 bt486.1 bt493.1 bt500.1 bt507.1))))))))) else (none)) else (none))) = some true := H
            have A14 := Aside0.mk A140
            clear A140
            replace H := Option.bind_eq_some_iff.mp H
            obtain ⟨⟨t471, t472, t473, t474, t475, t476, t477⟩, A150, H⟩ := H
            replace H : (if 0 ≤ x9_1 then (if x9_1 < (l2.length : Int) then ((millwrightlaw09_does.f kj7 t472 t473 t474 t475 t476 t477 (wrap64 (Int.tmod (rd l2 x9_1) 11))).bind fun bt479 => ((life_Life_State.f bt479.2.1 bt479.2.2.1 bt479.2.2.2.1 bt479.2.2.2.2.1 bt479.2.2.2.2.2.1 bt479.2.2.2.2.2.2).bind fun bt486 => ((life_Life_Epoch.f bt486.2.1 bt486.2.2.1 bt486.2.2.2.1 bt486.2.2.2.2.1 bt486.2.2.2.2.2.1 bt486.2.2.2.2.2.2).bind fun bt493 => ((life_Life_Missed.f bt493.2.1 bt493.2.2.1 bt493.2.2.2.1 bt493.2.2.2.2.1 bt493.2.2.2.2.2.1 bt493.2.2.2.2.2.2).bind fun bt500 => ((life_Life_Stopped.f bt500.2.1 bt500.2.2.1 bt500.2.2.2.1 bt500.2.2.2.2.1 bt500.2.2.2.2.2.1 bt500.2.2.2.2.2.2).bind fun bt507 => (if bt479.1 = 0 then (if t471 = true then (if bt479.1 = 8 then (millwrightlaw09_LifeBounds.j2 kj7 a0 a1 l2 t434 x9_1 (!(t442 == bt486.1) || (!(t449 == bt493.1) || (!(t456 == bt500.1) || (!(t463 == bt507.1))))) bt507.2.1 bt507.2.2.1 bt507.2.2.2.1 bt507.2.2.2.2.1 bt507.2.2.2.2.2.1 bt507.2.2.2.2.2.2 t442 t449 t456 t463 bt486.1 bt493.1 bt500.1 bt507.1) else (millwrightlaw09_LifeBounds.j2 kj7 a0 a1 l2 t434 x9_1 true bt507.2.1 bt507.2.2.1 bt507.2.2.2.1 bt507.2.2.2.2.1 bt507.2.2.2.2.2.1 bt507.2.2.2.2.2.2 t442 t449 t456 t463 bt486.1 bt493.1 bt500.1 bt507.1)) else (millwrightlaw09_LifeBounds.j2 kj7 a0 a1 l2 t434 x9_1 false bt507.2.1 bt507.2.2.1 bt507.2.2.2.1 bt507.2.2.2.2.1 bt507.2.2.2.2.2.1 bt507.2.2.2.2.2.2 t442 t449 t456 t463 bt486.1 bt493.1 bt500.1 bt507.1)) else (if (!(t442 == bt486.1) || (!(t449 == bt493.1) || (!(t456 == bt500.1) || (!(t463 == bt507.1))))) = true then (millwrightlaw09_LifeBounds.j2 kj7 a0 a1 l2 t434 x9_1 true bt507.2.1 bt507.2.2.1 bt507.2.2.2.1 bt507.2.2.2.2.1 bt507.2.2.2.2.2.1 bt507.2.2.2.2.2.2 t442 t449 t456 t463 bt486.1 bt493.1 bt500.1 bt507.1) else (if t471 = true then (if bt479.1 = 8 then (millwrightlaw09_LifeBounds.j2 kj7 a0 a1 l2 t434 x9_1 (!(t442 == bt486.1) || (!(t449 == bt493.1) || (!(t456 == bt500.1) || (!(t463 == bt507.1))))) bt507.2.1 bt507.2.2.1 bt507.2.2.2.1 bt507.2.2.2.2.1 bt507.2.2.2.2.2.1 bt507.2.2.2.2.2.2 t442 t449 t456 t463 bt486.1 bt493.1 bt500.1 bt507.1) else (millwrightlaw09_LifeBounds.j2 kj7 a0 a1 l2 t434 x9_1 true bt507.2.1 bt507.2.2.1 bt507.2.2.2.1 bt507.2.2.2.2.1 bt507.2.2.2.2.2.1 bt507.2.2.2.2.2.2 t442 t449 t456 t463 bt486.1 bt493.1 bt500.1 bt507.1)) else (millwrightlaw09_LifeBounds.j2 kj7 a0 a1 l2 t434 x9_1 false bt507.2.1 bt507.2.2.1 bt507.2.2.2.1 bt507.2.2.2.2.1 bt507.2.2.2.2.2.1 bt507.2.2.2.2.2.2 t442 t449 t456 t463 bt486.1 bt493.1 bt500.1 bt507.1))))))))) else (none)) else (none)) = some true := H
            have A15 := Aside0.mk A150
            clear A150
            by_cases c16 : 0 ≤ x9_1
            · rw [if_pos c16] at H
              have c16b0 : decide (0 ≤ x9_1) = true := decide_eq_true c16
              clear c16
              by_cases c17 : x9_1 < (l2.length : Int)
              · rw [if_pos c17] at H
                have c17b0 : decide (x9_1 < (l2.length : Int)) = true := decide_eq_true c17
                clear c17
                replace H := Option.bind_eq_some_iff.mp H
                obtain ⟨⟨t479, t480, t481, t482, t483, t484, t485⟩, A180, H⟩ := H
                replace H : ((life_Life_State.f t480 t481 t482 t483 t484 t485).bind fun bt486 => ((life_Life_Epoch.f bt486.2.1 bt486.2.2.1 bt486.2.2.2.1 bt486.2.2.2.2.1 bt486.2.2.2.2.2.1 bt486.2.2.2.2.2.2).bind fun bt493 => ((life_Life_Missed.f bt493.2.1 bt493.2.2.1 bt493.2.2.2.1 bt493.2.2.2.2.1 bt493.2.2.2.2.2.1 bt493.2.2.2.2.2.2).bind fun bt500 => ((life_Life_Stopped.f bt500.2.1 bt500.2.2.1 bt500.2.2.2.1 bt500.2.2.2.2.1 bt500.2.2.2.2.2.1 bt500.2.2.2.2.2.2).bind fun bt507 => (if t479 = 0 then (if t471 = true then (if t479 = 8 then (millwrightlaw09_LifeBounds.j2 kj7 a0 a1 l2 t434 x9_1 (!(t442 == bt486.1) || (!(t449 == bt493.1) || (!(t456 == bt500.1) || (!(t463 == bt507.1))))) bt507.2.1 bt507.2.2.1 bt507.2.2.2.1 bt507.2.2.2.2.1 bt507.2.2.2.2.2.1 bt507.2.2.2.2.2.2 t442 t449 t456 t463 bt486.1 bt493.1 bt500.1 bt507.1) else (millwrightlaw09_LifeBounds.j2 kj7 a0 a1 l2 t434 x9_1 true bt507.2.1 bt507.2.2.1 bt507.2.2.2.1 bt507.2.2.2.2.1 bt507.2.2.2.2.2.1 bt507.2.2.2.2.2.2 t442 t449 t456 t463 bt486.1 bt493.1 bt500.1 bt507.1)) else (millwrightlaw09_LifeBounds.j2 kj7 a0 a1 l2 t434 x9_1 false bt507.2.1 bt507.2.2.1 bt507.2.2.2.1 bt507.2.2.2.2.1 bt507.2.2.2.2.2.1 bt507.2.2.2.2.2.2 t442 t449 t456 t463 bt486.1 bt493.1 bt500.1 bt507.1)) else (if (!(t442 == bt486.1) || (!(t449 == bt493.1) || (!(t456 == bt500.1) || (!(t463 == bt507.1))))) = true then (millwrightlaw09_LifeBounds.j2 kj7 a0 a1 l2 t434 x9_1 true bt507.2.1 bt507.2.2.1 bt507.2.2.2.1 bt507.2.2.2.2.1 bt507.2.2.2.2.2.1 bt507.2.2.2.2.2.2 t442 t449 t456 t463 bt486.1 bt493.1 bt500.1 bt507.1) else (if t471 = true then (if t479 = 8 then (millwrightlaw09_LifeBounds.j2 kj7 a0 a1 l2 t434 x9_1 (!(t442 == bt486.1) || (!(t449 == bt493.1) || (!(t456 == bt500.1) || (!(t463 == bt507.1))))) bt507.2.1 bt507.2.2.1 bt507.2.2.2.1 bt507.2.2.2.2.1 bt507.2.2.2.2.2.1 bt507.2.2.2.2.2.2 t442 t449 t456 t463 bt486.1 bt493.1 bt500.1 bt507.1) else (millwrightlaw09_LifeBounds.j2 kj7 a0 a1 l2 t434 x9_1 true bt507.2.1 bt507.2.2.1 bt507.2.2.2.1 bt507.2.2.2.2.1 bt507.2.2.2.2.2.1 bt507.2.2.2.2.2.2 t442 t449 t456 t463 bt486.1 bt493.1 bt500.1 bt507.1)) else (millwrightlaw09_LifeBounds.j2 kj7 a0 a1 l2 t434 x9_1 false bt507.2.1 bt507.2.2.1 bt507.2.2.2.1 bt507.2.2.2.2.1 bt507.2.2.2.2.2.1 bt507.2.2.2.2.2.2 t442 t449 t456 t463 bt486.1 bt493.1 bt500.1 bt507.1)))))))) = some true := H
                have A18 := Aside0.mk A180
                clear A180
                replace H := Option.bind_eq_some_iff.mp H
                obtain ⟨⟨t486, t487, t488, t489, t490, t491, t492⟩, A190, H⟩ := H
                replace H : ((life_Life_Epoch.f t487 t488 t489 t490 t491 t492).bind fun bt493 => ((life_Life_Missed.f bt493.2.1 bt493.2.2.1 bt493.2.2.2.1 bt493.2.2.2.2.1 bt493.2.2.2.2.2.1 bt493.2.2.2.2.2.2).bind fun bt500 => ((life_Life_Stopped.f bt500.2.1 bt500.2.2.1 bt500.2.2.2.1 bt500.2.2.2.2.1 bt500.2.2.2.2.2.1 bt500.2.2.2.2.2.2).bind fun bt507 => (if t479 = 0 then (if t471 = true then (if t479 = 8 then (millwrightlaw09_LifeBounds.j2 kj7 a0 a1 l2 t434 x9_1 (!(t442 == t486) || (!(t449 == bt493.1) || (!(t456 == bt500.1) || (!(t463 == bt507.1))))) bt507.2.1 bt507.2.2.1 bt507.2.2.2.1 bt507.2.2.2.2.1 bt507.2.2.2.2.2.1 bt507.2.2.2.2.2.2 t442 t449 t456 t463 t486 bt493.1 bt500.1 bt507.1) else (millwrightlaw09_LifeBounds.j2 kj7 a0 a1 l2 t434 x9_1 true bt507.2.1 bt507.2.2.1 bt507.2.2.2.1 bt507.2.2.2.2.1 bt507.2.2.2.2.2.1 bt507.2.2.2.2.2.2 t442 t449 t456 t463 t486 bt493.1 bt500.1 bt507.1)) else (millwrightlaw09_LifeBounds.j2 kj7 a0 a1 l2 t434 x9_1 false bt507.2.1 bt507.2.2.1 bt507.2.2.2.1 bt507.2.2.2.2.1 bt507.2.2.2.2.2.1 bt507.2.2.2.2.2.2 t442 t449 t456 t463 t486 bt493.1 bt500.1 bt507.1)) else (if (!(t442 == t486) || (!(t449 == bt493.1) || (!(t456 == bt500.1) || (!(t463 == bt507.1))))) = true then (millwrightlaw09_LifeBounds.j2 kj7 a0 a1 l2 t434 x9_1 true bt507.2.1 bt507.2.2.1 bt507.2.2.2.1 bt507.2.2.2.2.1 bt507.2.2.2.2.2.1 bt507.2.2.2.2.2.2 t442 t449 t456 t463 t486 bt493.1 bt500.1 bt507.1) else (if t471 = true then (if t479 = 8 then (millwrightlaw09_LifeBounds.j2 kj7 a0 a1 l2 t434 x9_1 (!(t442 == t486) || (!(t449 == bt493.1) || (!(t456 == bt500.1) || (!(t463 == bt507.1))))) bt507.2.1 bt507.2.2.1 bt507.2.2.2.1 bt507.2.2.2.2.1 bt507.2.2.2.2.2.1 bt507.2.2.2.2.2.2 t442 t449 t456 t463 t486 bt493.1 bt500.1 bt507.1) else (millwrightlaw09_LifeBounds.j2 kj7 a0 a1 l2 t434 x9_1 true bt507.2.1 bt507.2.2.1 bt507.2.2.2.1 bt507.2.2.2.2.1 bt507.2.2.2.2.2.1 bt507.2.2.2.2.2.2 t442 t449 t456 t463 t486 bt493.1 bt500.1 bt507.1)) else (millwrightlaw09_LifeBounds.j2 kj7 a0 a1 l2 t434 x9_1 false bt507.2.1 bt507.2.2.1 bt507.2.2.2.1 bt507.2.2.2.2.1 bt507.2.2.2.2.2.1 bt507.2.2.2.2.2.2 t442 t449 t456 t463 t486 bt493.1 bt500.1 bt507.1))))))) = some true := H
                have A19 := Aside0.mk A190
                clear A190
                replace H := Option.bind_eq_some_iff.mp H
                obtain ⟨⟨t493, t494, t495, t496, t497, t498, t499⟩, A200, H⟩ := H
                replace H : ((life_Life_Missed.f t494 t495 t496 t497 t498 t499).bind fun bt500 => ((life_Life_Stopped.f bt500.2.1 bt500.2.2.1 bt500.2.2.2.1 bt500.2.2.2.2.1 bt500.2.2.2.2.2.1 bt500.2.2.2.2.2.2).bind fun bt507 => (if t479 = 0 then (if t471 = true then (if t479 = 8 then (millwrightlaw09_LifeBounds.j2 kj7 a0 a1 l2 t434 x9_1 (!(t442 == t486) || (!(t449 == t493) || (!(t456 == bt500.1) || (!(t463 == bt507.1))))) bt507.2.1 bt507.2.2.1 bt507.2.2.2.1 bt507.2.2.2.2.1 bt507.2.2.2.2.2.1 bt507.2.2.2.2.2.2 t442 t449 t456 t463 t486 t493 bt500.1 bt507.1) else (millwrightlaw09_LifeBounds.j2 kj7 a0 a1 l2 t434 x9_1 true bt507.2.1 bt507.2.2.1 bt507.2.2.2.1 bt507.2.2.2.2.1 bt507.2.2.2.2.2.1 bt507.2.2.2.2.2.2 t442 t449 t456 t463 t486 t493 bt500.1 bt507.1)) else (millwrightlaw09_LifeBounds.j2 kj7 a0 a1 l2 t434 x9_1 false bt507.2.1 bt507.2.2.1 bt507.2.2.2.1 bt507.2.2.2.2.1 bt507.2.2.2.2.2.1 bt507.2.2.2.2.2.2 t442 t449 t456 t463 t486 t493 bt500.1 bt507.1)) else (if (!(t442 == t486) || (!(t449 == t493) || (!(t456 == bt500.1) || (!(t463 == bt507.1))))) = true then (millwrightlaw09_LifeBounds.j2 kj7 a0 a1 l2 t434 x9_1 true bt507.2.1 bt507.2.2.1 bt507.2.2.2.1 bt507.2.2.2.2.1 bt507.2.2.2.2.2.1 bt507.2.2.2.2.2.2 t442 t449 t456 t463 t486 t493 bt500.1 bt507.1) else (if t471 = true then (if t479 = 8 then (millwrightlaw09_LifeBounds.j2 kj7 a0 a1 l2 t434 x9_1 (!(t442 == t486) || (!(t449 == t493) || (!(t456 == bt500.1) || (!(t463 == bt507.1))))) bt507.2.1 bt507.2.2.1 bt507.2.2.2.1 bt507.2.2.2.2.1 bt507.2.2.2.2.2.1 bt507.2.2.2.2.2.2 t442 t449 t456 t463 t486 t493 bt500.1 bt507.1) else (millwrightlaw09_LifeBounds.j2 kj7 a0 a1 l2 t434 x9_1 true bt507.2.1 bt507.2.2.1 bt507.2.2.2.1 bt507.2.2.2.2.1 bt507.2.2.2.2.2.1 bt507.2.2.2.2.2.2 t442 t449 t456 t463 t486 t493 bt500.1 bt507.1)) else (millwrightlaw09_LifeBounds.j2 kj7 a0 a1 l2 t434 x9_1 false bt507.2.1 bt507.2.2.1 bt507.2.2.2.1 bt507.2.2.2.2.1 bt507.2.2.2.2.2.1 bt507.2.2.2.2.2.2 t442 t449 t456 t463 t486 t493 bt500.1 bt507.1)))))) = some true := H
                have A20 := Aside0.mk A200
                clear A200
                replace H := Option.bind_eq_some_iff.mp H
                obtain ⟨⟨t500, t501, t502, t503, t504, t505, t506⟩, A210, H⟩ := H
                replace H : ((life_Life_Stopped.f t501 t502 t503 t504 t505 t506).bind fun bt507 => (if t479 = 0 then (if t471 = true then (if t479 = 8 then (millwrightlaw09_LifeBounds.j2 kj7 a0 a1 l2 t434 x9_1 (!(t442 == t486) || (!(t449 == t493) || (!(t456 == t500) || (!(t463 == bt507.1))))) bt507.2.1 bt507.2.2.1 bt507.2.2.2.1 bt507.2.2.2.2.1 bt507.2.2.2.2.2.1 bt507.2.2.2.2.2.2 t442 t449 t456 t463 t486 t493 t500 bt507.1) else (millwrightlaw09_LifeBounds.j2 kj7 a0 a1 l2 t434 x9_1 true bt507.2.1 bt507.2.2.1 bt507.2.2.2.1 bt507.2.2.2.2.1 bt507.2.2.2.2.2.1 bt507.2.2.2.2.2.2 t442 t449 t456 t463 t486 t493 t500 bt507.1)) else (millwrightlaw09_LifeBounds.j2 kj7 a0 a1 l2 t434 x9_1 false bt507.2.1 bt507.2.2.1 bt507.2.2.2.1 bt507.2.2.2.2.1 bt507.2.2.2.2.2.1 bt507.2.2.2.2.2.2 t442 t449 t456 t463 t486 t493 t500 bt507.1)) else (if (!(t442 == t486) || (!(t449 == t493) || (!(t456 == t500) || (!(t463 == bt507.1))))) = true then (millwrightlaw09_LifeBounds.j2 kj7 a0 a1 l2 t434 x9_1 true bt507.2.1 bt507.2.2.1 bt507.2.2.2.1 bt507.2.2.2.2.1 bt507.2.2.2.2.2.1 bt507.2.2.2.2.2.2 t442 t449 t456 t463 t486 t493 t500 bt507.1) else (if t471 = true then (if t479 = 8 then (millwrightlaw09_LifeBounds.j2 kj7 a0 a1 l2 t434 x9_1 (!(t442 == t486) || (!(t449 == t493) || (!(t456 == t500) || (!(t463 == bt507.1))))) bt507.2.1 bt507.2.2.1 bt507.2.2.2.1 bt507.2.2.2.2.1 bt507.2.2.2.2.2.1 bt507.2.2.2.2.2.2 t442 t449 t456 t463 t486 t493 t500 bt507.1) else (millwrightlaw09_LifeBounds.j2 kj7 a0 a1 l2 t434 x9_1 true bt507.2.1 bt507.2.2.1 bt507.2.2.2.1 bt507.2.2.2.2.1 bt507.2.2.2.2.2.1 bt507.2.2.2.2.2.2 t442 t449 t456 t463 t486 t493 t500 bt507.1)) else (millwrightlaw09_LifeBounds.j2 kj7 a0 a1 l2 t434 x9_1 false bt507.2.1 bt507.2.2.1 bt507.2.2.2.1 bt507.2.2.2.2.1 bt507.2.2.2.2.2.1 bt507.2.2.2.2.2.2 t442 t449 t456 t463 t486 t493 t500 bt507.1))))) = some true := H
                have A21 := Aside0.mk A210
                clear A210
                replace H := Option.bind_eq_some_iff.mp H
                obtain ⟨⟨t507, t508, t509, t510, t511, t512, t513⟩, A220, H⟩ := H
                replace H : (if t479 = 0 then (if t471 = true then (if t479 = 8 then (millwrightlaw09_LifeBounds.j2 kj7 a0 a1 l2 t434 x9_1 (!(t442 == t486) || (!(t449 == t493) || (!(t456 == t500) || (!(t463 == t507))))) t508 t509 t510 t511 t512 t513 t442 t449 t456 t463 t486 t493 t500 t507) else (millwrightlaw09_LifeBounds.j2 kj7 a0 a1 l2 t434 x9_1 true t508 t509 t510 t511 t512 t513 t442 t449 t456 t463 t486 t493 t500 t507)) else (millwrightlaw09_LifeBounds.j2 kj7 a0 a1 l2 t434 x9_1 false t508 t509 t510 t511 t512 t513 t442 t449 t456 t463 t486 t493 t500 t507)) else (if (!(t442 == t486) || (!(t449 == t493) || (!(t456 == t500) || (!(t463 == t507))))) = true then (millwrightlaw09_LifeBounds.j2 kj7 a0 a1 l2 t434 x9_1 true t508 t509 t510 t511 t512 t513 t442 t449 t456 t463 t486 t493 t500 t507) else (if t471 = true then (if t479 = 8 then (millwrightlaw09_LifeBounds.j2 kj7 a0 a1 l2 t434 x9_1 (!(t442 == t486) || (!(t449 == t493) || (!(t456 == t500) || (!(t463 == t507))))) t508 t509 t510 t511 t512 t513 t442 t449 t456 t463 t486 t493 t500 t507) else (millwrightlaw09_LifeBounds.j2 kj7 a0 a1 l2 t434 x9_1 true t508 t509 t510 t511 t512 t513 t442 t449 t456 t463 t486 t493 t500 t507)) else (millwrightlaw09_LifeBounds.j2 kj7 a0 a1 l2 t434 x9_1 false t508 t509 t510 t511 t512 t513 t442 t449 t456 t463 t486 t493 t500 t507)))) = some true := H
                have A22 := Aside0.mk A220
                clear A220
                have HC23 := Aside0.mk H
                clear H
                go_upto_region 12 with (first | ((with_reducible refine gate_callee (f := 20) rfl ?_); refine goesL_ (some 31) rfl rfl Try.func20 (by kernel_rfl) rfl #[.pointer (some ⟨g441, 0, none⟩)] rfl (by (try simp only [List.map_toArray, List.map_cons, List.map_nil]); first | done | rfl | (simp only [List.length_drop, List.length_take]; rfl)) ?_; (with_reducible refine (life_Life_State.calls g441 x442000_1 x442001_1 x442002_1 x442003_1 x442004_1 x442005_1 t442 t443 t444 t445 t446 t447 t448 w _ ?side1 ?side2 A11.out).mono ?_); (case side1 => repeat (first | (with_reducible first | exact HI441.out | apply IsS62.alloc | apply IsS62.drewN | apply IsS62.drew | apply IsS62.set_0 | apply IsS62.set_1 | apply IsS62.set_2 | apply IsS62.set_3 | apply IsS62.set_4 | apply IsS62.set_5) | exact HI441.out)); (case side2 => repeat (first | (with_reducible first | exact HB.out | apply below_alloc | apply pw_below_drewN | apply below_drew1 | refine below_set ?_ (IsS62.ge HI441.out)) | exact HB.out)); rintro e w24 ⟨rfl, hi, hb, hk⟩; refine ⟨_, rfl, ?_⟩; have n0_ := Aside0.mk (hb); have n1_ := Aside0.mk (hi); clear HB; clear HI441; have HB := n0_; have HI441 := n1_; clear n0_ n1_; (try clear hb); (try clear hb2); (try clear hk); (try clear hi)) | ((with_reducible refine gate_callee (f := 23) rfl ?_); refine goesL_ (some 33) rfl rfl Try.func23 (by kernel_rfl) rfl #[.pointer (some ⟨g441, 0, none⟩)] rfl (by (try simp only [List.map_toArray, List.map_cons, List.map_nil]); first | done | rfl | (simp only [List.length_drop, List.length_take]; rfl)) ?_; (with_reducible refine (life_Life_Epoch.calls g441 t443 t444 t445 t446 t447 t448 t449 t450 t451 t452 t453 t454 t455 w _ ?side1 ?side2 A12.out).mono ?_); (case side1 => repeat (first | (with_reducible first | exact HI441.out | apply IsS62.alloc | apply IsS62.drewN | apply IsS62.drew | apply IsS62.set_0 | apply IsS62.set_1 | apply IsS62.set_2 | apply IsS62.set_3 | apply IsS62.set_4 | apply IsS62.set_5) | exact HI441.out)); (case side2 => repeat (first | (with_reducible first | exact HB.out | apply below_alloc | apply pw_below_drewN | apply below_drew1 | refine below_set ?_ (IsS62.ge HI441.out)) | exact HB.out)); rintro e w25 ⟨rfl, hi, hb, hk⟩; refine ⟨_, rfl, ?_⟩; have n0_ := Aside0.mk (hb); have n1_ := Aside0.mk (hi); clear HB; clear HI441; have HB := n0_; have HI441 := n1_; clear n0_ n1_; (try clear hb); (try clear hb2); (try clear hk); (try clear hi)) | ((with_reducible refine gate_callee (f := 22) rfl ?_); refine goesL_ (some 35) rfl rfl Try.func22 (by kernel_rfl) rfl #[.pointer (some ⟨g441, 0, none⟩)] rfl (by (try simp only [List.map_toArray, List.map_cons, List.map_nil]); first | done | rfl | (simp only [List.length_drop, List.length_take]; rfl)) ?_; (with_reducible refine (life_Life_Missed.calls g441 t450 t451 t452 t453 t454 t455 t456 t457 t458 t459 t460 t461 t462 w _ ?side1 ?side2 A13.out).mono ?_); (case side1 => repeat (first | (with_reducible first | exact HI441.out | apply IsS62.alloc | apply IsS62.drewN | apply IsS62.drew | apply IsS62.set_0 | apply IsS62.set_1 | apply IsS62.set_2 | apply IsS62.set_3 | apply IsS62.set_4 | apply IsS62.set_5) | exact HI441.out)); (case side2 => repeat (first | (with_reducible first | exact HB.out | apply below_alloc | apply pw_below_drewN | apply below_drew1 | refine below_set ?_ (IsS62.ge HI441.out)) | exact HB.out)); rintro e w26 ⟨rfl, hi, hb, hk⟩; refine ⟨_, rfl, ?_⟩; have n0_ := Aside0.mk (hb); have n1_ := Aside0.mk (hi); clear HB; clear HI441; have HB := n0_; have HI441 := n1_; clear n0_ n1_; (try clear hb); (try clear hb2); (try clear hk); (try clear hi)) | ((with_reducible refine gate_callee (f := 21) rfl ?_); refine goesL_ (some 37) rfl rfl Try.func21 (by kernel_rfl) rfl #[.pointer (some ⟨g441, 0, none⟩)] rfl (by (try simp only [List.map_toArray, List.map_cons, List.map_nil]); first | done | rfl | (simp only [List.length_drop, List.length_take]; rfl)) ?_; (with_reducible refine (life_Life_Stopped.calls g441 t457 t458 t459 t460 t461 t462 t463 t464 t465 t466 t467 t468 t469 w _ ?side1 ?side2 A14.out).mono ?_); (case side1 => repeat (first | (with_reducible first | exact HI441.out | apply IsS62.alloc | apply IsS62.drewN | apply IsS62.drew | apply IsS62.set_0 | apply IsS62.set_1 | apply IsS62.set_2 | apply IsS62.set_3 | apply IsS62.set_4 | apply IsS62.set_5) | exact HI441.out)); (case side2 => repeat (first | (with_reducible first | exact HB.out | apply below_alloc | apply pw_below_drewN | apply below_drew1 | refine below_set ?_ (IsS62.ge HI441.out)) | exact HB.out)); rintro e w27 ⟨rfl, hi, hb, hk⟩; refine ⟨_, rfl, ?_⟩; have n0_ := Aside0.mk (hb); have n1_ := Aside0.mk (hi); clear HB; clear HI441; have HB := n0_; have HI441 := n1_; clear n0_ n1_; (try clear hb); (try clear hb2); (try clear hk); (try clear hi)) | ((with_reducible refine gate_dst (N := 10) rfl ?_); (try (refine gate_guard (by rfl) ?_; dsimp only)); refine box_event ?hg (N := 10) ?hd (cs := #[.int .i64 0, .int .i64 0, .int .i64 0, .int .i64 0]) (t := 59) ?hr ?_; (case hd => rfl); (case hg => rfl); (case hr => first | (go_simp; done) | (go_simp; rfl)); intro gb470 hg w28 hbox hb; have n0_ := Aside0.mk (IsS62.below (by repeat (first | (with_reducible first | exact HI441.out | apply IsS62.alloc | apply IsS62.drewN | apply IsS62.drew | apply IsS62.set_0 | apply IsS62.set_1 | apply IsS62.set_2 | apply IsS62.set_3 | apply IsS62.set_4 | apply IsS62.set_5) | exact HI441.out)) hb); have n1_ := Aside0.mk (below_step (by repeat (first | (with_reducible first | exact HB.out | apply below_alloc | apply pw_below_drewN | apply below_drew1 | refine below_set ?_ (IsS62.ge HI441.out)) | exact HB.out)) hb); have n2_ := Aside0.mk (hbox); have n3_ := Aside0.mk ((by rw [hg]; exact (below_size (by repeat (first | (with_reducible first | exact HB.out | apply below_alloc | apply pw_below_drewN | apply below_drew1 | refine below_set ?_ (IsS62.ge HI441.out)) | exact HB.out))) : w.heap.size ≤ gb470)); have n4_ := Aside0.mk ((by rw [hg]; exact (below_size (by repeat (first | (with_reducible first | exact HB.out | apply below_alloc | apply pw_below_drewN | apply below_drew1 | refine below_set ?_ (IsS62.ge HI441.out)) | exact HB.out))) : w.heap.size ≤ gb470)); have n5_ := Aside0.mk ((by rw [hg]; exact Nat.ne_of_lt (IsS62.lt (show IsS62 w _ g441 t464 t465 t466 t467 t468 t469 from by repeat (first | (with_reducible first | exact HI441.out | apply IsS62.alloc | apply IsS62.drewN | apply IsS62.drew | apply IsS62.set_0 | apply IsS62.set_1 | apply IsS62.set_2 | apply IsS62.set_3 | apply IsS62.set_4 | apply IsS62.set_5) | exact HI441.out))) : g441 ≠ gb470)); have n6_ := Aside0.mk ((by rw [hg]; exact Nat.ne_of_gt (IsS62.lt (show IsS62 w _ g441 t464 t465 t466 t467 t468 t469 from by repeat (first | (with_reducible first | exact HI441.out | apply IsS62.alloc | apply IsS62.drewN | apply IsS62.drew | apply IsS62.set_0 | apply IsS62.set_1 | apply IsS62.set_2 | apply IsS62.set_3 | apply IsS62.set_4 | apply IsS62.set_5) | exact HI441.out))) : gb470 ≠ g441)); clear HI441; clear HB; have HI441 := n0_; have HB := n1_; have BK470 := n2_; have GW470 := n3_; have GE470 := n4_; have NB441_470 := n5_; have NB470_441 := n6_; clear n0_ n1_ n2_ n3_ n4_ n5_ n6_; clear hb hbox hg; have hnb29 := NB470_441.out; have hnc29 := NB441_470.out; have hcz30_0 : w28.cell? ⟨gb470, 0, none⟩ = some (.int .i64 0) := (blk_cell BK470.out 0).trans rfl; have hcz30_1 : w28.cell? ⟨gb470, 1, none⟩ = some (.int .i64 0) := (blk_cell BK470.out 1).trans rfl; have hcz30_2 : w28.cell? ⟨gb470, 2, none⟩ = some (.int .i64 0) := (blk_cell BK470.out 2).trans rfl; have hcz30_3 : w28.cell? ⟨gb470, 3, none⟩ = some (.int .i64 0) := (blk_cell BK470.out 3).trans rfl; have hfz30_0 := blk_frozen BK470.out 0; have hfz30_1 := blk_frozen BK470.out 1; have hfz30_2 := blk_frozen BK470.out 2; have hfz30_3 := blk_frozen BK470.out 3) | ((with_reducible refine gate_callee (f := 42) rfl ?_); refine goesL_ (some 40) rfl rfl Try.func42 (by kernel_rfl) rfl #[.pointer (some ⟨g441, 0, none⟩)] rfl (by (try simp only [List.map_toArray, List.map_cons, List.map_nil]); first | done | rfl | (simp only [List.length_drop, List.length_take]; rfl)) ?_; (with_reducible refine (life_Life_Final.calls g441 t464 t465 t466 t467 t468 t469 t471 t472 t473 t474 t475 t476 t477 w _ ?side1 ?side2 A15.out).mono ?_); (case side1 => repeat (first | (with_reducible first | exact HI441.out | apply IsS62.alloc | apply IsS62.drewN | apply IsS62.drew | apply IsS62.set_0 | apply IsS62.set_1 | apply IsS62.set_2 | apply IsS62.set_3 | apply IsS62.set_4 | apply IsS62.set_5 | refine IsS62.far ?_ NB441_470.out _) | exact HI441.out)); (case side2 => repeat (first | (with_reducible first | exact HB.out | apply below_alloc | apply pw_below_drewN | apply below_drew1 | refine below_set ?_ (IsS62.ge HI441.out) | refine below_set ?_ GE470.out) | exact HB.out)); rintro e w31 ⟨rfl, hi, hb, hk⟩; refine ⟨_, rfl, ?_⟩; have n0_ := Aside0.mk (KeepBut.blk hk (g' := gb470) (o := .cells #[.int .i64 t442, .int .i64 t449, .int .i64 t456, .int .i64 t463] 59 (0, 0)) (by (with_reducible repeat (first | refine blk_drewN ?_ _ | refine blk_drew ?_ | refine blk_alloc ?_ _)); refine blk_put (cs := #[.int .i64 t442, .int .i64 t449, .int .i64 t456, .int .i64 0]) ?_ 3 _ rfl; (with_reducible repeat (first | refine blk_drewN ?_ _ | refine blk_drew ?_ | refine blk_alloc ?_ _)); refine blk_put (cs := #[.int .i64 t442, .int .i64 t449, .int .i64 0, .int .i64 0]) ?_ 2 _ rfl; (with_reducible repeat (first | refine blk_drewN ?_ _ | refine blk_drew ?_ | refine blk_alloc ?_ _)); refine blk_put (cs := #[.int .i64 t442, .int .i64 0, .int .i64 0, .int .i64 0]) ?_ 1 _ rfl; (with_reducible repeat (first | refine blk_drewN ?_ _ | refine blk_drew ?_ | refine blk_alloc ?_ _)); refine blk_put (cs := #[.int .i64 0, .int .i64 0, .int .i64 0, .int .i64 0]) ?_ 0 _ rfl; (with_reducible repeat (first | refine blk_drewN ?_ _ | refine blk_drew ?_ | refine blk_alloc ?_ _)); exact BK470.out) NB470_441.out (by simp)); have n1_ := Aside0.mk (hb); have n2_ := Aside0.mk (hi); clear BK470; clear HB; clear HI441; have BK470 := n0_; have HB := n1_; have HI441 := n2_; clear n0_ n1_ n2_; (try clear hb); (try clear hb2); (try clear hk); (try clear hi); have p478 : 0 ≤ (x9_1 : Int) := of_decide_eq_true (by first | (with_reducible assumption) | assumption); have q478 : x9_1 < (l2.length : Int) := of_decide_eq_true (by first | (with_reducible assumption) | assumption); obtain ⟨ad478, e478, hx478_0⟩ := Kd.at_int HR2.out x9_1 p478 q478; cases e478; replace hx478_0 := (HB.out.cell (World.block_lt_of_cell? w _ hx478_0)).trans hx478_0; replace p478 := eq_true p478; replace q478 := eq_true q478) | ((with_reducible refine gate_callee (f := 40) rfl ?_); refine goesL_ (some 48) rfl rfl Try.func40 (by kernel_rfl) rfl #[.pointer (some ⟨g441, 0, none⟩), .int .i64 (wrap64 (Int.tmod (rd l2 x9_1) 11))] rfl (by (try simp only [List.map_toArray, List.map_cons, List.map_nil]); first | done | rfl | (simp only [List.length_drop, List.length_take]; rfl)) ?_; (with_reducible refine (millwrightlaw09_does.calls kj7 g441 t472 t473 t474 t475 t476 t477 (wrap64 (Int.tmod (rd l2 x9_1) 11)) t479 t480 t481 t482 t483 t484 t485 w _ ?side1 ?side2 A18.out).mono ?_); (case side1 => repeat (first | (with_reducible first | exact HI441.out | apply IsS62.alloc | apply IsS62.drewN | apply IsS62.drew | apply IsS62.set_0 | apply IsS62.set_1 | apply IsS62.set_2 | apply IsS62.set_3 | apply IsS62.set_4 | apply IsS62.set_5 | refine IsS62.far ?_ NB441_470.out _) | exact HI441.out)); (case side2 => repeat (first | (with_reducible first | exact HB.out | apply below_alloc | apply pw_below_drewN | apply below_drew1 | refine below_set ?_ (IsS62.ge HI441.out) | refine below_set ?_ GE470.out) | exact HB.out)); rintro e w32 ⟨rfl, hi, hb, hk⟩; refine ⟨_, rfl, ?_⟩; have n0_ := Aside0.mk (KeepBut.blk hk (g' := gb470) (o := .cells #[.int .i64 t442, .int .i64 t449, .int .i64 t456, .int .i64 t463] 59 (0, 0)) (by (with_reducible repeat (first | refine blk_drewN ?_ _ | refine blk_drew ?_ | refine blk_alloc ?_ _)); exact BK470.out) NB470_441.out (by simp)); have n1_ := Aside0.mk (hb); have n2_ := Aside0.mk (hi); clear BK470; clear HB; clear HI441; have BK470 := n0_; have HB := n1_; have HI441 := n2_; clear n0_ n1_ n2_; (try clear hb); (try clear hb2); (try clear hk); (try clear hi)) | ((with_reducible refine gate_callee (f := 20) rfl ?_); refine goesL_ (some 50) rfl rfl Try.func20 (by kernel_rfl) rfl #[.pointer (some ⟨g441, 0, none⟩)] rfl (by (try simp only [List.map_toArray, List.map_cons, List.map_nil]); first | done | rfl | (simp only [List.length_drop, List.length_take]; rfl)) ?_; (with_reducible refine (life_Life_State.calls g441 t480 t481 t482 t483 t484 t485 t486 t487 t488 t489 t490 t491 t492 w _ ?side1 ?side2 A19.out).mono ?_); (case side1 => repeat (first | (with_reducible first | exact HI441.out | apply IsS62.alloc | apply IsS62.drewN | apply IsS62.drew | apply IsS62.set_0 | apply IsS62.set_1 | apply IsS62.set_2 | apply IsS62.set_3 | apply IsS62.set_4 | apply IsS62.set_5 | refine IsS62.far ?_ NB441_470.out _) | exact HI441.out)); (case side2 => repeat (first | (with_reducible first | exact HB.out | apply below_alloc | apply pw_below_drewN | apply below_drew1 | refine below_set ?_ (IsS62.ge HI441.out) | refine below_set ?_ GE470.out) | exact HB.out)); rintro e w33 ⟨rfl, hi, hb, hk⟩; refine ⟨_, rfl, ?_⟩; have n0_ := Aside0.mk (KeepBut.blk hk (g' := gb470) (o := .cells #[.int .i64 t442, .int .i64 t449, .int .i64 t456, .int .i64 t463] 59 (0, 0)) (by (with_reducible repeat (first | refine blk_drewN ?_ _ | refine blk_drew ?_ | refine blk_alloc ?_ _)); exact BK470.out) NB470_441.out (by simp)); have n1_ := Aside0.mk (hb); have n2_ := Aside0.mk (hi); clear BK470; clear HB; clear HI441; have BK470 := n0_; have HB := n1_; have HI441 := n2_; clear n0_ n1_ n2_; (try clear hb); (try clear hb2); (try clear hk); (try clear hi)) | ((with_reducible refine gate_callee (f := 23) rfl ?_); refine goesL_ (some 52) rfl rfl Try.func23 (by kernel_rfl) rfl #[.pointer (some ⟨g441, 0, none⟩)] rfl (by (try simp only [List.map_toArray, List.map_cons, List.map_nil]); first | done | rfl | (simp only [List.length_drop, List.length_take]; rfl)) ?_; (with_reducible refine (life_Life_Epoch.calls g441 t487 t488 t489 t490 t491 t492 t493 t494 t495 t496 t497 t498 t499 w _ ?side1 ?side2 A20.out).mono ?_); (case side1 => repeat (first | (with_reducible first | exact HI441.out | apply IsS62.alloc | apply IsS62.drewN | apply IsS62.drew | apply IsS62.set_0 | apply IsS62.set_1 | apply IsS62.set_2 | apply IsS62.set_3 | apply IsS62.set_4 | apply IsS62.set_5 | refine IsS62.far ?_ NB441_470.out _) | exact HI441.out)); (case side2 => repeat (first | (with_reducible first | exact HB.out | apply below_alloc | apply pw_below_drewN | apply below_drew1 | refine below_set ?_ (IsS62.ge HI441.out) | refine below_set ?_ GE470.out) | exact HB.out)); rintro e w34 ⟨rfl, hi, hb, hk⟩; refine ⟨_, rfl, ?_⟩; have n0_ := Aside0.mk (KeepBut.blk hk (g' := gb470) (o := .cells #[.int .i64 t442, .int .i64 t449, .int .i64 t456, .int .i64 t463] 59 (0, 0)) (by (with_reducible repeat (first | refine blk_drewN ?_ _ | refine blk_drew ?_ | refine blk_alloc ?_ _)); exact BK470.out) NB470_441.out (by simp)); have n1_ := Aside0.mk (hb); have n2_ := Aside0.mk (hi); clear BK470; clear HB; clear HI441; have BK470 := n0_; have HB := n1_; have HI441 := n2_; clear n0_ n1_ n2_; (try clear hb); (try clear hb2); (try clear hk); (try clear hi)) | ((with_reducible refine gate_callee (f := 22) rfl ?_); refine goesL_ (some 54) rfl rfl Try.func22 (by kernel_rfl) rfl #[.pointer (some ⟨g441, 0, none⟩)] rfl (by (try simp only [List.map_toArray, List.map_cons, List.map_nil]); first | done | rfl | (simp only [List.length_drop, List.length_take]; rfl)) ?_; (with_reducible refine (life_Life_Missed.calls g441 t494 t495 t496 t497 t498 t499 t500 t501 t502 t503 t504 t505 t506 w _ ?side1 ?side2 A21.out).mono ?_); (case side1 => repeat (first | (with_reducible first | exact HI441.out | apply IsS62.alloc | apply IsS62.drewN | apply IsS62.drew | apply IsS62.set_0 | apply IsS62.set_1 | apply IsS62.set_2 | apply IsS62.set_3 | apply IsS62.set_4 | apply IsS62.set_5 | refine IsS62.far ?_ NB441_470.out _) | exact HI441.out)); (case side2 => repeat (first | (with_reducible first | exact HB.out | apply below_alloc | apply pw_below_drewN | apply below_drew1 | refine below_set ?_ (IsS62.ge HI441.out) | refine below_set ?_ GE470.out) | exact HB.out)); rintro e w35 ⟨rfl, hi, hb, hk⟩; refine ⟨_, rfl, ?_⟩; have n0_ := Aside0.mk (KeepBut.blk hk (g' := gb470) (o := .cells #[.int .i64 t442, .int .i64 t449, .int .i64 t456, .int .i64 t463] 59 (0, 0)) (by (with_reducible repeat (first | refine blk_drewN ?_ _ | refine blk_drew ?_ | refine blk_alloc ?_ _)); exact BK470.out) NB470_441.out (by simp)); have n1_ := Aside0.mk (hb); have n2_ := Aside0.mk (hi); clear BK470; clear HB; clear HI441; have BK470 := n0_; have HB := n1_; have HI441 := n2_; clear n0_ n1_ n2_; (try clear hb); (try clear hb2); (try clear hk); (try clear hi)) | ((with_reducible refine gate_callee (f := 21) rfl ?_); refine goesL_ (some 56) rfl rfl Try.func21 (by kernel_rfl) rfl #[.pointer (some ⟨g441, 0, none⟩)] rfl (by (try simp only [List.map_toArray, List.map_cons, List.map_nil]); first | done | rfl | (simp only [List.length_drop, List.length_take]; rfl)) ?_; (with_reducible refine (life_Life_Stopped.calls g441 t501 t502 t503 t504 t505 t506 t507 t508 t509 t510 t511 t512 t513 w _ ?side1 ?side2 A22.out).mono ?_); (case side1 => repeat (first | (with_reducible first | exact HI441.out | apply IsS62.alloc | apply IsS62.drewN | apply IsS62.drew | apply IsS62.set_0 | apply IsS62.set_1 | apply IsS62.set_2 | apply IsS62.set_3 | apply IsS62.set_4 | apply IsS62.set_5 | refine IsS62.far ?_ NB441_470.out _) | exact HI441.out)); (case side2 => repeat (first | (with_reducible first | exact HB.out | apply below_alloc | apply pw_below_drewN | apply below_drew1 | refine below_set ?_ (IsS62.ge HI441.out) | refine below_set ?_ GE470.out) | exact HB.out)); rintro e w36 ⟨rfl, hi, hb, hk⟩; refine ⟨_, rfl, ?_⟩; have n0_ := Aside0.mk (KeepBut.blk hk (g' := gb470) (o := .cells #[.int .i64 t442, .int .i64 t449, .int .i64 t456, .int .i64 t463] 59 (0, 0)) (by (with_reducible repeat (first | refine blk_drewN ?_ _ | refine blk_drew ?_ | refine blk_alloc ?_ _)); exact BK470.out) NB470_441.out (by simp)); have n1_ := Aside0.mk (hb); have n2_ := Aside0.mk (hi); clear BK470; clear HB; clear HI441; have BK470 := n0_; have HB := n1_; have HI441 := n2_; clear n0_ n1_ n2_; (try clear hb); (try clear hb2); (try clear hk); (try clear hi)) | ((with_reducible refine gate_dst (N := 13) rfl ?_); (try (refine gate_guard (by rfl) ?_; dsimp only)); refine box_event ?hg (N := 13) ?hd (cs := #[.int .i64 0, .int .i64 0, .int .i64 0, .int .i64 0]) (t := 59) ?hr ?_; (case hd => rfl); (case hg => rfl); (case hr => first | (go_simp; done) | (go_simp; rfl)); intro gb514 hg w37 hbox hb; have n0_ := Aside0.mk (IsS62.below (by repeat (first | (with_reducible first | exact HI441.out | apply IsS62.alloc | apply IsS62.drewN | apply IsS62.drew | apply IsS62.set_0 | apply IsS62.set_1 | apply IsS62.set_2 | apply IsS62.set_3 | apply IsS62.set_4 | apply IsS62.set_5 | refine IsS62.far ?_ NB441_470.out _) | exact HI441.out)) hb); have n1_ := Aside0.mk (blk_below (g := gb470) (o := .cells #[.int .i64 t442, .int .i64 t449, .int .i64 t456, .int .i64 t463] 59 (0, 0)) (by (with_reducible repeat (first | refine blk_drewN ?_ _ | refine blk_drew ?_ | refine blk_alloc ?_ _)); exact BK470.out) hb); have n2_ := Aside0.mk (below_step (by repeat (first | (with_reducible first | exact HB.out | apply below_alloc | apply pw_below_drewN | apply below_drew1 | refine below_set ?_ (IsS62.ge HI441.out) | refine below_set ?_ GE470.out) | exact HB.out)) hb); have n3_ := Aside0.mk (hbox); have n4_ := Aside0.mk ((by rw [hg]; exact (below_size (by repeat (first | (with_reducible first | exact HB.out | apply below_alloc | apply pw_below_drewN | apply below_drew1 | refine below_set ?_ (IsS62.ge HI441.out) | refine below_set ?_ GE470.out) | exact HB.out))) : w.heap.size ≤ gb514)); have n5_ := Aside0.mk ((by rw [hg]; exact (below_size (by repeat (first | (with_reducible first | exact HB.out | apply below_alloc | apply pw_below_drewN | apply below_drew1 | refine below_set ?_ (IsS62.ge HI441.out) | refine below_set ?_ GE470.out) | exact HB.out))) : w.heap.size ≤ gb514)); have n6_ := Aside0.mk ((by rw [hg]; exact Nat.ne_of_lt (blk_lt (g := gb470) (o := .cells #[.int .i64 t442, .int .i64 t449, .int .i64 t456, .int .i64 t463] 59 (0, 0)) (by (with_reducible repeat (first | refine blk_drewN ?_ _ | refine blk_drew ?_ | refine blk_alloc ?_ _)); exact BK470.out)) : gb470 ≠ gb514)); have n7_ := Aside0.mk ((by rw [hg]; exact Nat.ne_of_gt (blk_lt (g := gb470) (o := .cells #[.int .i64 t442, .int .i64 t449, .int .i64 t456, .int .i64 t463] 59 (0, 0)) (by (with_reducible repeat (first | refine blk_drewN ?_ _ | refine blk_drew ?_ | refine blk_alloc ?_ _)); exact BK470.out)) : gb514 ≠ gb470)); have n8_ := Aside0.mk ((by rw [hg]; exact Nat.ne_of_lt (IsS62.lt (show IsS62 w _ g441 t508 t509 t510 t511 t512 t513 from by repeat (first | (with_reducible first | exact HI441.out | apply IsS62.alloc | apply IsS62.drewN | apply IsS62.drew | apply IsS62.set_0 | apply IsS62.set_1 | apply IsS62.set_2 | apply IsS62.set_3 | apply IsS62.set_4 | apply IsS62.set_5 | refine IsS62.far ?_ NB441_470.out _) | exact HI441.out))) : g441 ≠ gb514)); have n9_ := Aside0.mk ((by rw [hg]; exact Nat.ne_of_gt (IsS62.lt (show IsS62 w _ g441 t508 t509 t510 t511 t512 t513 from by repeat (first | (with_reducible first | exact HI441.out | apply IsS62.alloc | apply IsS62.drewN | apply IsS62.drew | apply IsS62.set_0 | apply IsS62.set_1 | apply IsS62.set_2 | apply IsS62.set_3 | apply IsS62.set_4 | apply IsS62.set_5 | refine IsS62.far ?_ NB441_470.out _) | exact HI441.out))) : gb514 ≠ g441)); clear HI441; clear BK470; clear HB; have HI441 := n0_; have BK470 := n1_; have HB := n2_; have BK514 := n3_; have GW514 := n4_; have GE514 := n5_; have NB470_514 := n6_; have NB514_470 := n7_; have NB441_514 := n8_; have NB514_441 := n9_; clear n0_ n1_ n2_ n3_ n4_ n5_ n6_ n7_ n8_ n9_; clear hb hbox hg; have hnb38 := NB514_470.out; have hnc38 := NB470_514.out; have hnb39 := NB514_441.out; have hnc39 := NB441_514.out; have hcz40_0 : w37.cell? ⟨gb514, 0, none⟩ = some (.int .i64 0) := (blk_cell BK514.out 0).trans rfl; have hcz40_1 : w37.cell? ⟨gb514, 1, none⟩ = some (.int .i64 0) := (blk_cell BK514.out 1).trans rfl; have hcz40_2 : w37.cell? ⟨gb514, 2, none⟩ = some (.int .i64 0) := (blk_cell BK514.out 2).trans rfl; have hcz40_3 : w37.cell? ⟨gb514, 3, none⟩ = some (.int .i64 0) := (blk_cell BK514.out 3).trans rfl; have hfz40_0 := blk_frozen BK514.out 0; have hfz40_1 := blk_frozen BK514.out 1; have hfz40_2 := blk_frozen BK514.out 2; have hfz40_3 := blk_frozen BK514.out 3))
                (try simp only [Act.put, List.setIfInBounds_toArray, List.set_cons_zero, List.set_cons_succ])
                go_cut [76] (fun v76 wc => ∃ (kq : Nat) (x76_22 : Bool), v76 = .bool x76_22 ∧ Aside0 (millwrightlaw09_LifeBounds.j2 kq a0 a1 l2 t434 x9_1 x76_22 t508 t509 t510 t511 t512 t513 t442 t449 t456 t463 t486 t493 t500 t507 = some true) ∧ Aside0 (kq ≤ kj7) ∧ Aside0 (wc.heap[gb470]? = some (.cells #[.int .i64 t442, .int .i64 t449, .int .i64 t456, .int .i64 t463] 59 (0, 0))) ∧ Aside0 (wc.heap[gb514]? = some (.cells #[.int .i64 t486, .int .i64 t493, .int .i64 t500, .int .i64 t507] 59 (0, 0))) ∧ Aside0 (IsS62 w wc g441 t508 t509 t510 t511 t512 t513) ∧ Aside0 (Below w.heap.size w wc))
                case first =>
                  have H := HC23.out
                  clear HC23
                  by_cases c41 : t479 = 0
                  · rw [if_pos c41] at H
                    have c41b0 : (t479 == 0) = true := beq_iff_eq.mpr c41
                    have c41b1 : (t479 != 0) = false := bne_eq_false_iff_eq.mpr c41
                    clear c41
                    (first | rw [c41b0] | (simp only [i64_w, i32_w]; rw [c41b0]) | skip)
                    by_cases c42 : t471 = true
                    · subst c42
                      have H1 : (if t479 = 8 then (millwrightlaw09_LifeBounds.j2 kj7 a0 a1 l2 t434 x9_1 (!(t442 == t486) || (!(t449 == t493) || (!(t456 == t500) || (!(t463 == t507))))) t508 t509 t510 t511 t512 t513 t442 t449 t456 t463 t486 t493 t500 t507) else (millwrightlaw09_LifeBounds.j2 kj7 a0 a1 l2 t434 x9_1 true t508 t509 t510 t511 t512 t513 t442 t449 t456 t463 t486 t493 t500 t507)) = some true := by rw [if_pos rfl] at H; exact H
                      clear H
                      have H := H1
                      clear H1
                      by_cases c43 : t479 = 8
                      · rw [if_pos c43] at H
                        have c43b0 : (t479 == 8) = true := beq_iff_eq.mpr c43
                        have c43b1 : (t479 != 8) = false := bne_eq_false_iff_eq.mpr c43
                        clear c43
                        have H' := Aside0.mk H
                        clear H
                        have hnb44 := NB470_514.out
                        have hnc44 := NB514_470.out
                        have hnb45 := NB470_441.out
                        have hnc45 := NB441_470.out
                        have hcz46_0 : w37.cell? ⟨gb470, 0, none⟩ = some (.int .i64 t442) := (blk_cell BK470.out 0).trans rfl
                        have hcz46_1 : w37.cell? ⟨gb470, 1, none⟩ = some (.int .i64 t449) := (blk_cell BK470.out 1).trans rfl
                        have hcz46_2 : w37.cell? ⟨gb470, 2, none⟩ = some (.int .i64 t456) := (blk_cell BK470.out 2).trans rfl
                        have hcz46_3 : w37.cell? ⟨gb470, 3, none⟩ = some (.int .i64 t463) := (blk_cell BK470.out 3).trans rfl
                        have hfz46_0 := blk_frozen BK470.out 0
                        have hfz46_1 := blk_frozen BK470.out 1
                        have hfz46_2 := blk_frozen BK470.out 2
                        have hfz46_3 := blk_frozen BK470.out 3
                        have hnb47 := NB514_441.out
                        have hnc47 := NB441_514.out
                        have hcz48_0 : w37.cell? ⟨gb514, 0, none⟩ = some (.int .i64 0) := (blk_cell BK514.out 0).trans rfl
                        have hcz48_1 : w37.cell? ⟨gb514, 1, none⟩ = some (.int .i64 0) := (blk_cell BK514.out 1).trans rfl
                        have hcz48_2 : w37.cell? ⟨gb514, 2, none⟩ = some (.int .i64 0) := (blk_cell BK514.out 2).trans rfl
                        have hcz48_3 : w37.cell? ⟨gb514, 3, none⟩ = some (.int .i64 0) := (blk_cell BK514.out 3).trans rfl
                        have hfz48_0 := blk_frozen BK514.out 0
                        have hfz48_1 := blk_frozen BK514.out 1
                        have hfz48_2 := blk_frozen BK514.out 2
                        have hfz48_3 := blk_frozen BK514.out 3
                        go_wp2
                        first | go_meet | (refine Met.intro ?_; go_step; (try rw [c16b0]); (try rw [c17b0]); (try rw [c41b0]); (try rw [c43b0]); (repeat apply Exists.intro); refine ⟨?rel, rfl⟩)
                        case rel => exact ⟨_, ((!(t442 == t486) || (!(t449 == t493) || (!(t456 == t500) || (!(t463 == t507)))))), (by first | rfl | (simp; done) | (simp [*]; done)), H', ⟨by have := HK1.out; have := HJ7.out; first | omega | exact Nat.le_refl _⟩, ⟨by (with_reducible repeat (first | refine blk_drewN ?_ _ | refine blk_drew ?_ | refine blk_alloc ?_ _)); refine blk_far ?_ NB470_514.out _; (with_reducible repeat (first | refine blk_drewN ?_ _ | refine blk_drew ?_ | refine blk_alloc ?_ _)); refine blk_far ?_ NB470_514.out _; (with_reducible repeat (first | refine blk_drewN ?_ _ | refine blk_drew ?_ | refine blk_alloc ?_ _)); refine blk_far ?_ NB470_514.out _; (with_reducible repeat (first | refine blk_drewN ?_ _ | refine blk_drew ?_ | refine blk_alloc ?_ _)); refine blk_far ?_ NB470_514.out _; (with_reducible repeat (first | refine blk_drewN ?_ _ | refine blk_drew ?_ | refine blk_alloc ?_ _)); exact BK470.out⟩, ⟨by (with_reducible repeat (first | refine blk_drewN ?_ _ | refine blk_drew ?_ | refine blk_alloc ?_ _)); refine blk_put (cs := #[.int .i64 t486, .int .i64 t493, .int .i64 t500, .int .i64 0]) ?_ 3 _ rfl; (with_reducible repeat (first | refine blk_drewN ?_ _ | refine blk_drew ?_ | refine blk_alloc ?_ _)); refine blk_put (cs := #[.int .i64 t486, .int .i64 t493, .int .i64 0, .int .i64 0]) ?_ 2 _ rfl; (with_reducible repeat (first | refine blk_drewN ?_ _ | refine blk_drew ?_ | refine blk_alloc ?_ _)); refine blk_put (cs := #[.int .i64 t486, .int .i64 0, .int .i64 0, .int .i64 0]) ?_ 1 _ rfl; (with_reducible repeat (first | refine blk_drewN ?_ _ | refine blk_drew ?_ | refine blk_alloc ?_ _)); refine blk_put (cs := #[.int .i64 0, .int .i64 0, .int .i64 0, .int .i64 0]) ?_ 0 _ rfl; (with_reducible repeat (first | refine blk_drewN ?_ _ | refine blk_drew ?_ | refine blk_alloc ?_ _)); exact BK514.out⟩, ⟨by repeat (first | (with_reducible first | exact HI441.out | apply IsS62.alloc | apply IsS62.drewN | apply IsS62.drew | apply IsS62.set_0 | apply IsS62.set_1 | apply IsS62.set_2 | apply IsS62.set_3 | apply IsS62.set_4 | apply IsS62.set_5 | refine IsS62.far ?_ NB441_470.out _ | refine IsS62.far ?_ NB441_514.out _) | exact HI441.out)⟩, ⟨by repeat (first | (with_reducible first | exact HB.out | apply below_alloc | apply pw_below_drewN | apply below_drew1 | refine below_set ?_ (IsS62.ge HI441.out) | refine below_set ?_ GE470.out | refine below_set ?_ GE514.out) | exact HB.out)⟩⟩
                      · rw [if_neg c43] at H
                        have c43b0 : (t479 == 8) = false := beq_eq_false_iff_ne.mpr c43
                        have c43b1 : (t479 != 8) = true := bne_iff_ne.mpr c43
                        have H' := Aside0.mk H
                        clear H
                        go_wp2
                        first | go_meet | (refine Met.intro ?_; go_step; (try rw [c16b0]); (try rw [c17b0]); (try rw [c41b0]); (try rw [c43b0]); (repeat apply Exists.intro); refine ⟨?rel, rfl⟩)
                        case rel => exact ⟨_, (true), (by first | rfl | (simp; done) | (simp [*]; done)), H', ⟨by have := HK1.out; have := HJ7.out; first | omega | exact Nat.le_refl _⟩, ⟨by (with_reducible repeat (first | refine blk_drewN ?_ _ | refine blk_drew ?_ | refine blk_alloc ?_ _)); refine blk_far ?_ NB470_514.out _; (with_reducible repeat (first | refine blk_drewN ?_ _ | refine blk_drew ?_ | refine blk_alloc ?_ _)); refine blk_far ?_ NB470_514.out _; (with_reducible repeat (first | refine blk_drewN ?_ _ | refine blk_drew ?_ | refine blk_alloc ?_ _)); refine blk_far ?_ NB470_514.out _; (with_reducible repeat (first | refine blk_drewN ?_ _ | refine blk_drew ?_ | refine blk_alloc ?_ _)); refine blk_far ?_ NB470_514.out _; (with_reducible repeat (first | refine blk_drewN ?_ _ | refine blk_drew ?_ | refine blk_alloc ?_ _)); exact BK470.out⟩, ⟨by (with_reducible repeat (first | refine blk_drewN ?_ _ | refine blk_drew ?_ | refine blk_alloc ?_ _)); refine blk_put (cs := #[.int .i64 t486, .int .i64 t493, .int .i64 t500, .int .i64 0]) ?_ 3 _ rfl; (with_reducible repeat (first | refine blk_drewN ?_ _ | refine blk_drew ?_ | refine blk_alloc ?_ _)); refine blk_put (cs := #[.int .i64 t486, .int .i64 t493, .int .i64 0, .int .i64 0]) ?_ 2 _ rfl; (with_reducible repeat (first | refine blk_drewN ?_ _ | refine blk_drew ?_ | refine blk_alloc ?_ _)); refine blk_put (cs := #[.int .i64 t486, .int .i64 0, .int .i64 0, .int .i64 0]) ?_ 1 _ rfl; (with_reducible repeat (first | refine blk_drewN ?_ _ | refine blk_drew ?_ | refine blk_alloc ?_ _)); refine blk_put (cs := #[.int .i64 0, .int .i64 0, .int .i64 0, .int .i64 0]) ?_ 0 _ rfl; (with_reducible repeat (first | refine blk_drewN ?_ _ | refine blk_drew ?_ | refine blk_alloc ?_ _)); exact BK514.out⟩, ⟨by repeat (first | (with_reducible first | exact HI441.out | apply IsS62.alloc | apply IsS62.drewN | apply IsS62.drew | apply IsS62.set_0 | apply IsS62.set_1 | apply IsS62.set_2 | apply IsS62.set_3 | apply IsS62.set_4 | apply IsS62.set_5 | refine IsS62.far ?_ NB441_470.out _ | refine IsS62.far ?_ NB441_514.out _) | exact HI441.out)⟩, ⟨by repeat (first | (with_reducible first | exact HB.out | apply below_alloc | apply pw_below_drewN | apply below_drew1 | refine below_set ?_ (IsS62.ge HI441.out) | refine below_set ?_ GE470.out | refine below_set ?_ GE514.out) | exact HB.out)⟩⟩
                    · replace c42 := Bool.eq_false_iff.mpr c42
                      subst c42
                      have H1 : (millwrightlaw09_LifeBounds.j2 kj7 a0 a1 l2 t434 x9_1 false t508 t509 t510 t511 t512 t513 t442 t449 t456 t463 t486 t493 t500 t507) = some true := by rw [if_neg (show ¬ (false = true) by decide)] at H; exact H
                      clear H
                      have H := H1
                      clear H1
                      have H' := Aside0.mk H
                      clear H
                      go_wp2
                      first | go_meet | (refine Met.intro ?_; go_step; (try rw [c16b0]); (try rw [c17b0]); (try rw [c41b0]); (repeat apply Exists.intro); refine ⟨?rel, rfl⟩)
                      case rel => exact ⟨_, (false), (by first | rfl | (simp; done) | (simp [*]; done)), H', ⟨by have := HK1.out; have := HJ7.out; first | omega | exact Nat.le_refl _⟩, ⟨by (with_reducible repeat (first | refine blk_drewN ?_ _ | refine blk_drew ?_ | refine blk_alloc ?_ _)); refine blk_far ?_ NB470_514.out _; (with_reducible repeat (first | refine blk_drewN ?_ _ | refine blk_drew ?_ | refine blk_alloc ?_ _)); refine blk_far ?_ NB470_514.out _; (with_reducible repeat (first | refine blk_drewN ?_ _ | refine blk_drew ?_ | refine blk_alloc ?_ _)); refine blk_far ?_ NB470_514.out _; (with_reducible repeat (first | refine blk_drewN ?_ _ | refine blk_drew ?_ | refine blk_alloc ?_ _)); refine blk_far ?_ NB470_514.out _; (with_reducible repeat (first | refine blk_drewN ?_ _ | refine blk_drew ?_ | refine blk_alloc ?_ _)); exact BK470.out⟩, ⟨by (with_reducible repeat (first | refine blk_drewN ?_ _ | refine blk_drew ?_ | refine blk_alloc ?_ _)); refine blk_put (cs := #[.int .i64 t486, .int .i64 t493, .int .i64 t500, .int .i64 0]) ?_ 3 _ rfl; (with_reducible repeat (first | refine blk_drewN ?_ _ | refine blk_drew ?_ | refine blk_alloc ?_ _)); refine blk_put (cs := #[.int .i64 t486, .int .i64 t493, .int .i64 0, .int .i64 0]) ?_ 2 _ rfl; (with_reducible repeat (first | refine blk_drewN ?_ _ | refine blk_drew ?_ | refine blk_alloc ?_ _)); refine blk_put (cs := #[.int .i64 t486, .int .i64 0, .int .i64 0, .int .i64 0]) ?_ 1 _ rfl; (with_reducible repeat (first | refine blk_drewN ?_ _ | refine blk_drew ?_ | refine blk_alloc ?_ _)); refine blk_put (cs := #[.int .i64 0, .int .i64 0, .int .i64 0, .int .i64 0]) ?_ 0 _ rfl; (with_reducible repeat (first | refine blk_drewN ?_ _ | refine blk_drew ?_ | refine blk_alloc ?_ _)); exact BK514.out⟩, ⟨by repeat (first | (with_reducible first | exact HI441.out | apply IsS62.alloc | apply IsS62.drewN | apply IsS62.drew | apply IsS62.set_0 | apply IsS62.set_1 | apply IsS62.set_2 | apply IsS62.set_3 | apply IsS62.set_4 | apply IsS62.set_5 | refine IsS62.far ?_ NB441_470.out _ | refine IsS62.far ?_ NB441_514.out _) | exact HI441.out)⟩, ⟨by repeat (first | (with_reducible first | exact HB.out | apply below_alloc | apply pw_below_drewN | apply below_drew1 | refine below_set ?_ (IsS62.ge HI441.out) | refine below_set ?_ GE470.out | refine below_set ?_ GE514.out) | exact HB.out)⟩⟩
                  · rw [if_neg c41] at H
                    have c41b0 : (t479 == 0) = false := beq_eq_false_iff_ne.mpr c41
                    have c41b1 : (t479 != 0) = true := bne_iff_ne.mpr c41
                    (first | rw [c41b0] | (simp only [i64_w, i32_w]; rw [c41b0]) | skip)
                    by_cases c49 : (!(t442 == t486) || (!(t449 == t493) || (!(t456 == t500) || (!(t463 == t507))))) = true
                    · rw [if_pos c49] at H
                      have c49b0 : (!(t442 == t486) || (!(t449 == t493) || (!(t456 == t500) || (!(t463 == t507))))) = true := c49
                      clear c49
                      have H' := Aside0.mk H
                      clear H
                      have hnb50 := NB470_514.out
                      have hnc50 := NB514_470.out
                      have hnb51 := NB470_441.out
                      have hnc51 := NB441_470.out
                      have hcz52_0 : w37.cell? ⟨gb470, 0, none⟩ = some (.int .i64 t442) := (blk_cell BK470.out 0).trans rfl
                      have hcz52_1 : w37.cell? ⟨gb470, 1, none⟩ = some (.int .i64 t449) := (blk_cell BK470.out 1).trans rfl
                      have hcz52_2 : w37.cell? ⟨gb470, 2, none⟩ = some (.int .i64 t456) := (blk_cell BK470.out 2).trans rfl
                      have hcz52_3 : w37.cell? ⟨gb470, 3, none⟩ = some (.int .i64 t463) := (blk_cell BK470.out 3).trans rfl
                      have hfz52_0 := blk_frozen BK470.out 0
                      have hfz52_1 := blk_frozen BK470.out 1
                      have hfz52_2 := blk_frozen BK470.out 2
                      have hfz52_3 := blk_frozen BK470.out 3
                      have hnb53 := NB514_441.out
                      have hnc53 := NB441_514.out
                      have hcz54_0 : w37.cell? ⟨gb514, 0, none⟩ = some (.int .i64 0) := (blk_cell BK514.out 0).trans rfl
                      have hcz54_1 : w37.cell? ⟨gb514, 1, none⟩ = some (.int .i64 0) := (blk_cell BK514.out 1).trans rfl
                      have hcz54_2 : w37.cell? ⟨gb514, 2, none⟩ = some (.int .i64 0) := (blk_cell BK514.out 2).trans rfl
                      have hcz54_3 : w37.cell? ⟨gb514, 3, none⟩ = some (.int .i64 0) := (blk_cell BK514.out 3).trans rfl
                      have hfz54_0 := blk_frozen BK514.out 0
                      have hfz54_1 := blk_frozen BK514.out 1
                      have hfz54_2 := blk_frozen BK514.out 2
                      have hfz54_3 := blk_frozen BK514.out 3
                      go_wp2
                      first | go_meet | (refine Met.intro ?_; go_step; (try rw [c16b0]); (try rw [c17b0]); (try rw [c41b0]); (try rw [c49b0]); (repeat apply Exists.intro); refine ⟨?rel, rfl⟩)
                      case rel => exact ⟨_, (true), (by first | rfl | (simp; done) | (simp [*]; done)), H', ⟨by have := HK1.out; have := HJ7.out; first | omega | exact Nat.le_refl _⟩, ⟨by (with_reducible repeat (first | refine blk_drewN ?_ _ | refine blk_drew ?_ | refine blk_alloc ?_ _)); refine blk_far ?_ NB470_514.out _; (with_reducible repeat (first | refine blk_drewN ?_ _ | refine blk_drew ?_ | refine blk_alloc ?_ _)); refine blk_far ?_ NB470_514.out _; (with_reducible repeat (first | refine blk_drewN ?_ _ | refine blk_drew ?_ | refine blk_alloc ?_ _)); refine blk_far ?_ NB470_514.out _; (with_reducible repeat (first | refine blk_drewN ?_ _ | refine blk_drew ?_ | refine blk_alloc ?_ _)); refine blk_far ?_ NB470_514.out _; (with_reducible repeat (first | refine blk_drewN ?_ _ | refine blk_drew ?_ | refine blk_alloc ?_ _)); exact BK470.out⟩, ⟨by (with_reducible repeat (first | refine blk_drewN ?_ _ | refine blk_drew ?_ | refine blk_alloc ?_ _)); refine blk_put (cs := #[.int .i64 t486, .int .i64 t493, .int .i64 t500, .int .i64 0]) ?_ 3 _ rfl; (with_reducible repeat (first | refine blk_drewN ?_ _ | refine blk_drew ?_ | refine blk_alloc ?_ _)); refine blk_put (cs := #[.int .i64 t486, .int .i64 t493, .int .i64 0, .int .i64 0]) ?_ 2 _ rfl; (with_reducible repeat (first | refine blk_drewN ?_ _ | refine blk_drew ?_ | refine blk_alloc ?_ _)); refine blk_put (cs := #[.int .i64 t486, .int .i64 0, .int .i64 0, .int .i64 0]) ?_ 1 _ rfl; (with_reducible repeat (first | refine blk_drewN ?_ _ | refine blk_drew ?_ | refine blk_alloc ?_ _)); refine blk_put (cs := #[.int .i64 0, .int .i64 0, .int .i64 0, .int .i64 0]) ?_ 0 _ rfl; (with_reducible repeat (first | refine blk_drewN ?_ _ | refine blk_drew ?_ | refine blk_alloc ?_ _)); exact BK514.out⟩, ⟨by repeat (first | (with_reducible first | exact HI441.out | apply IsS62.alloc | apply IsS62.drewN | apply IsS62.drew | apply IsS62.set_0 | apply IsS62.set_1 | apply IsS62.set_2 | apply IsS62.set_3 | apply IsS62.set_4 | apply IsS62.set_5 | refine IsS62.far ?_ NB441_470.out _ | refine IsS62.far ?_ NB441_514.out _) | exact HI441.out)⟩, ⟨by repeat (first | (with_reducible first | exact HB.out | apply below_alloc | apply pw_below_drewN | apply below_drew1 | refine below_set ?_ (IsS62.ge HI441.out) | refine below_set ?_ GE470.out | refine below_set ?_ GE514.out) | exact HB.out)⟩⟩
                    · rw [if_neg c49] at H
                      have c49b0 : (!(t442 == t486) || (!(t449 == t493) || (!(t456 == t500) || (!(t463 == t507))))) = false := by simpa using c49
                      clear c49
                      by_cases c55 : t471 = true
                      · subst c55
                        have H1 : (if t479 = 8 then (millwrightlaw09_LifeBounds.j2 kj7 a0 a1 l2 t434 x9_1 (!(t442 == t486) || (!(t449 == t493) || (!(t456 == t500) || (!(t463 == t507))))) t508 t509 t510 t511 t512 t513 t442 t449 t456 t463 t486 t493 t500 t507) else (millwrightlaw09_LifeBounds.j2 kj7 a0 a1 l2 t434 x9_1 true t508 t509 t510 t511 t512 t513 t442 t449 t456 t463 t486 t493 t500 t507)) = some true := by rw [if_pos rfl] at H; exact H
                        clear H
                        have H := H1
                        clear H1
                        by_cases c56 : t479 = 8
                        · rw [if_pos c56] at H
                          have c56b0 : (t479 == 8) = true := beq_iff_eq.mpr c56
                          have c56b1 : (t479 != 8) = false := bne_eq_false_iff_eq.mpr c56
                          clear c56
                          have H' := Aside0.mk H
                          clear H
                          have hnb57 := NB470_514.out
                          have hnc57 := NB514_470.out
                          have hnb58 := NB470_441.out
                          have hnc58 := NB441_470.out
                          have hcz59_0 : w37.cell? ⟨gb470, 0, none⟩ = some (.int .i64 t442) := (blk_cell BK470.out 0).trans rfl
                          have hcz59_1 : w37.cell? ⟨gb470, 1, none⟩ = some (.int .i64 t449) := (blk_cell BK470.out 1).trans rfl
                          have hcz59_2 : w37.cell? ⟨gb470, 2, none⟩ = some (.int .i64 t456) := (blk_cell BK470.out 2).trans rfl
                          have hcz59_3 : w37.cell? ⟨gb470, 3, none⟩ = some (.int .i64 t463) := (blk_cell BK470.out 3).trans rfl
                          have hfz59_0 := blk_frozen BK470.out 0
                          have hfz59_1 := blk_frozen BK470.out 1
                          have hfz59_2 := blk_frozen BK470.out 2
                          have hfz59_3 := blk_frozen BK470.out 3
                          have hnb60 := NB514_441.out
                          have hnc60 := NB441_514.out
                          have hcz61_0 : w37.cell? ⟨gb514, 0, none⟩ = some (.int .i64 0) := (blk_cell BK514.out 0).trans rfl
                          have hcz61_1 : w37.cell? ⟨gb514, 1, none⟩ = some (.int .i64 0) := (blk_cell BK514.out 1).trans rfl
                          have hcz61_2 : w37.cell? ⟨gb514, 2, none⟩ = some (.int .i64 0) := (blk_cell BK514.out 2).trans rfl
                          have hcz61_3 : w37.cell? ⟨gb514, 3, none⟩ = some (.int .i64 0) := (blk_cell BK514.out 3).trans rfl
                          have hfz61_0 := blk_frozen BK514.out 0
                          have hfz61_1 := blk_frozen BK514.out 1
                          have hfz61_2 := blk_frozen BK514.out 2
                          have hfz61_3 := blk_frozen BK514.out 3
                          go_wp2
                          first | go_meet | (refine Met.intro ?_; go_step; (try rw [c16b0]); (try rw [c17b0]); (try rw [c41b0]); (try rw [c49b0]); (try rw [c56b0]); (repeat apply Exists.intro); refine ⟨?rel, rfl⟩)
                          case rel => exact ⟨_, ((!(t442 == t486) || (!(t449 == t493) || (!(t456 == t500) || (!(t463 == t507)))))), (by first | rfl | (simp; done) | (simp [*]; done)), H', ⟨by have := HK1.out; have := HJ7.out; first | omega | exact Nat.le_refl _⟩, ⟨by (with_reducible repeat (first | refine blk_drewN ?_ _ | refine blk_drew ?_ | refine blk_alloc ?_ _)); refine blk_far ?_ NB470_514.out _; (with_reducible repeat (first | refine blk_drewN ?_ _ | refine blk_drew ?_ | refine blk_alloc ?_ _)); refine blk_far ?_ NB470_514.out _; (with_reducible repeat (first | refine blk_drewN ?_ _ | refine blk_drew ?_ | refine blk_alloc ?_ _)); refine blk_far ?_ NB470_514.out _; (with_reducible repeat (first | refine blk_drewN ?_ _ | refine blk_drew ?_ | refine blk_alloc ?_ _)); refine blk_far ?_ NB470_514.out _; (with_reducible repeat (first | refine blk_drewN ?_ _ | refine blk_drew ?_ | refine blk_alloc ?_ _)); exact BK470.out⟩, ⟨by (with_reducible repeat (first | refine blk_drewN ?_ _ | refine blk_drew ?_ | refine blk_alloc ?_ _)); refine blk_put (cs := #[.int .i64 t486, .int .i64 t493, .int .i64 t500, .int .i64 0]) ?_ 3 _ rfl; (with_reducible repeat (first | refine blk_drewN ?_ _ | refine blk_drew ?_ | refine blk_alloc ?_ _)); refine blk_put (cs := #[.int .i64 t486, .int .i64 t493, .int .i64 0, .int .i64 0]) ?_ 2 _ rfl; (with_reducible repeat (first | refine blk_drewN ?_ _ | refine blk_drew ?_ | refine blk_alloc ?_ _)); refine blk_put (cs := #[.int .i64 t486, .int .i64 0, .int .i64 0, .int .i64 0]) ?_ 1 _ rfl; (with_reducible repeat (first | refine blk_drewN ?_ _ | refine blk_drew ?_ | refine blk_alloc ?_ _)); refine blk_put (cs := #[.int .i64 0, .int .i64 0, .int .i64 0, .int .i64 0]) ?_ 0 _ rfl; (with_reducible repeat (first | refine blk_drewN ?_ _ | refine blk_drew ?_ | refine blk_alloc ?_ _)); exact BK514.out⟩, ⟨by repeat (first | (with_reducible first | exact HI441.out | apply IsS62.alloc | apply IsS62.drewN | apply IsS62.drew | apply IsS62.set_0 | apply IsS62.set_1 | apply IsS62.set_2 | apply IsS62.set_3 | apply IsS62.set_4 | apply IsS62.set_5 | refine IsS62.far ?_ NB441_470.out _ | refine IsS62.far ?_ NB441_514.out _) | exact HI441.out)⟩, ⟨by repeat (first | (with_reducible first | exact HB.out | apply below_alloc | apply pw_below_drewN | apply below_drew1 | refine below_set ?_ (IsS62.ge HI441.out) | refine below_set ?_ GE470.out | refine below_set ?_ GE514.out) | exact HB.out)⟩⟩
                        · rw [if_neg c56] at H
                          have c56b0 : (t479 == 8) = false := beq_eq_false_iff_ne.mpr c56
                          have c56b1 : (t479 != 8) = true := bne_iff_ne.mpr c56
                          have H' := Aside0.mk H
                          clear H
                          have hnb62 := NB470_514.out
                          have hnc62 := NB514_470.out
                          have hnb63 := NB470_441.out
                          have hnc63 := NB441_470.out
                          have hcz64_0 : w37.cell? ⟨gb470, 0, none⟩ = some (.int .i64 t442) := (blk_cell BK470.out 0).trans rfl
                          have hcz64_1 : w37.cell? ⟨gb470, 1, none⟩ = some (.int .i64 t449) := (blk_cell BK470.out 1).trans rfl
                          have hcz64_2 : w37.cell? ⟨gb470, 2, none⟩ = some (.int .i64 t456) := (blk_cell BK470.out 2).trans rfl
                          have hcz64_3 : w37.cell? ⟨gb470, 3, none⟩ = some (.int .i64 t463) := (blk_cell BK470.out 3).trans rfl
                          have hfz64_0 := blk_frozen BK470.out 0
                          have hfz64_1 := blk_frozen BK470.out 1
                          have hfz64_2 := blk_frozen BK470.out 2
                          have hfz64_3 := blk_frozen BK470.out 3
                          have hnb65 := NB514_441.out
                          have hnc65 := NB441_514.out
                          have hcz66_0 : w37.cell? ⟨gb514, 0, none⟩ = some (.int .i64 0) := (blk_cell BK514.out 0).trans rfl
                          have hcz66_1 : w37.cell? ⟨gb514, 1, none⟩ = some (.int .i64 0) := (blk_cell BK514.out 1).trans rfl
                          have hcz66_2 : w37.cell? ⟨gb514, 2, none⟩ = some (.int .i64 0) := (blk_cell BK514.out 2).trans rfl
                          have hcz66_3 : w37.cell? ⟨gb514, 3, none⟩ = some (.int .i64 0) := (blk_cell BK514.out 3).trans rfl
                          have hfz66_0 := blk_frozen BK514.out 0
                          have hfz66_1 := blk_frozen BK514.out 1
                          have hfz66_2 := blk_frozen BK514.out 2
                          have hfz66_3 := blk_frozen BK514.out 3
                          go_wp2
                          first | go_meet | (refine Met.intro ?_; go_step; (try rw [c16b0]); (try rw [c17b0]); (try rw [c41b0]); (try rw [c49b0]); (try rw [c56b0]); (repeat apply Exists.intro); refine ⟨?rel, rfl⟩)
                          case rel => exact ⟨_, (true), (by first | rfl | (simp; done) | (simp [*]; done)), H', ⟨by have := HK1.out; have := HJ7.out; first | omega | exact Nat.le_refl _⟩, ⟨by (with_reducible repeat (first | refine blk_drewN ?_ _ | refine blk_drew ?_ | refine blk_alloc ?_ _)); refine blk_far ?_ NB470_514.out _; (with_reducible repeat (first | refine blk_drewN ?_ _ | refine blk_drew ?_ | refine blk_alloc ?_ _)); refine blk_far ?_ NB470_514.out _; (with_reducible repeat (first | refine blk_drewN ?_ _ | refine blk_drew ?_ | refine blk_alloc ?_ _)); refine blk_far ?_ NB470_514.out _; (with_reducible repeat (first | refine blk_drewN ?_ _ | refine blk_drew ?_ | refine blk_alloc ?_ _)); refine blk_far ?_ NB470_514.out _; (with_reducible repeat (first | refine blk_drewN ?_ _ | refine blk_drew ?_ | refine blk_alloc ?_ _)); exact BK470.out⟩, ⟨by (with_reducible repeat (first | refine blk_drewN ?_ _ | refine blk_drew ?_ | refine blk_alloc ?_ _)); refine blk_put (cs := #[.int .i64 t486, .int .i64 t493, .int .i64 t500, .int .i64 0]) ?_ 3 _ rfl; (with_reducible repeat (first | refine blk_drewN ?_ _ | refine blk_drew ?_ | refine blk_alloc ?_ _)); refine blk_put (cs := #[.int .i64 t486, .int .i64 t493, .int .i64 0, .int .i64 0]) ?_ 2 _ rfl; (with_reducible repeat (first | refine blk_drewN ?_ _ | refine blk_drew ?_ | refine blk_alloc ?_ _)); refine blk_put (cs := #[.int .i64 t486, .int .i64 0, .int .i64 0, .int .i64 0]) ?_ 1 _ rfl; (with_reducible repeat (first | refine blk_drewN ?_ _ | refine blk_drew ?_ | refine blk_alloc ?_ _)); refine blk_put (cs := #[.int .i64 0, .int .i64 0, .int .i64 0, .int .i64 0]) ?_ 0 _ rfl; (with_reducible repeat (first | refine blk_drewN ?_ _ | refine blk_drew ?_ | refine blk_alloc ?_ _)); exact BK514.out⟩, ⟨by repeat (first | (with_reducible first | exact HI441.out | apply IsS62.alloc | apply IsS62.drewN | apply IsS62.drew | apply IsS62.set_0 | apply IsS62.set_1 | apply IsS62.set_2 | apply IsS62.set_3 | apply IsS62.set_4 | apply IsS62.set_5 | refine IsS62.far ?_ NB441_470.out _ | refine IsS62.far ?_ NB441_514.out _) | exact HI441.out)⟩, ⟨by repeat (first | (with_reducible first | exact HB.out | apply below_alloc | apply pw_below_drewN | apply below_drew1 | refine below_set ?_ (IsS62.ge HI441.out) | refine below_set ?_ GE470.out | refine below_set ?_ GE514.out) | exact HB.out)⟩⟩
                      · replace c55 := Bool.eq_false_iff.mpr c55
                        subst c55
                        have H1 : (millwrightlaw09_LifeBounds.j2 kj7 a0 a1 l2 t434 x9_1 false t508 t509 t510 t511 t512 t513 t442 t449 t456 t463 t486 t493 t500 t507) = some true := by rw [if_neg (show ¬ (false = true) by decide)] at H; exact H
                        clear H
                        have H := H1
                        clear H1
                        have H' := Aside0.mk H
                        clear H
                        have hnb67 := NB470_514.out
                        have hnc67 := NB514_470.out
                        have hnb68 := NB470_441.out
                        have hnc68 := NB441_470.out
                        have hcz69_0 : w37.cell? ⟨gb470, 0, none⟩ = some (.int .i64 t442) := (blk_cell BK470.out 0).trans rfl
                        have hcz69_1 : w37.cell? ⟨gb470, 1, none⟩ = some (.int .i64 t449) := (blk_cell BK470.out 1).trans rfl
                        have hcz69_2 : w37.cell? ⟨gb470, 2, none⟩ = some (.int .i64 t456) := (blk_cell BK470.out 2).trans rfl
                        have hcz69_3 : w37.cell? ⟨gb470, 3, none⟩ = some (.int .i64 t463) := (blk_cell BK470.out 3).trans rfl
                        have hfz69_0 := blk_frozen BK470.out 0
                        have hfz69_1 := blk_frozen BK470.out 1
                        have hfz69_2 := blk_frozen BK470.out 2
                        have hfz69_3 := blk_frozen BK470.out 3
                        have hnb70 := NB514_441.out
                        have hnc70 := NB441_514.out
                        have hcz71_0 : w37.cell? ⟨gb514, 0, none⟩ = some (.int .i64 0) := (blk_cell BK514.out 0).trans rfl
                        have hcz71_1 : w37.cell? ⟨gb514, 1, none⟩ = some (.int .i64 0) := (blk_cell BK514.out 1).trans rfl
                        have hcz71_2 : w37.cell? ⟨gb514, 2, none⟩ = some (.int .i64 0) := (blk_cell BK514.out 2).trans rfl
                        have hcz71_3 : w37.cell? ⟨gb514, 3, none⟩ = some (.int .i64 0) := (blk_cell BK514.out 3).trans rfl
                        have hfz71_0 := blk_frozen BK514.out 0
                        have hfz71_1 := blk_frozen BK514.out 1
                        have hfz71_2 := blk_frozen BK514.out 2
                        have hfz71_3 := blk_frozen BK514.out 3
                        go_wp2
                        first | go_meet | (refine Met.intro ?_; go_step; (try rw [c16b0]); (try rw [c17b0]); (try rw [c41b0]); (try rw [c49b0]); (repeat apply Exists.intro); refine ⟨?rel, rfl⟩)
                        case rel => exact ⟨_, (false), (by first | rfl | (simp; done) | (simp [*]; done)), H', ⟨by have := HK1.out; have := HJ7.out; first | omega | exact Nat.le_refl _⟩, ⟨by (with_reducible repeat (first | refine blk_drewN ?_ _ | refine blk_drew ?_ | refine blk_alloc ?_ _)); refine blk_far ?_ NB470_514.out _; (with_reducible repeat (first | refine blk_drewN ?_ _ | refine blk_drew ?_ | refine blk_alloc ?_ _)); refine blk_far ?_ NB470_514.out _; (with_reducible repeat (first | refine blk_drewN ?_ _ | refine blk_drew ?_ | refine blk_alloc ?_ _)); refine blk_far ?_ NB470_514.out _; (with_reducible repeat (first | refine blk_drewN ?_ _ | refine blk_drew ?_ | refine blk_alloc ?_ _)); refine blk_far ?_ NB470_514.out _; (with_reducible repeat (first | refine blk_drewN ?_ _ | refine blk_drew ?_ | refine blk_alloc ?_ _)); exact BK470.out⟩, ⟨by (with_reducible repeat (first | refine blk_drewN ?_ _ | refine blk_drew ?_ | refine blk_alloc ?_ _)); refine blk_put (cs := #[.int .i64 t486, .int .i64 t493, .int .i64 t500, .int .i64 0]) ?_ 3 _ rfl; (with_reducible repeat (first | refine blk_drewN ?_ _ | refine blk_drew ?_ | refine blk_alloc ?_ _)); refine blk_put (cs := #[.int .i64 t486, .int .i64 t493, .int .i64 0, .int .i64 0]) ?_ 2 _ rfl; (with_reducible repeat (first | refine blk_drewN ?_ _ | refine blk_drew ?_ | refine blk_alloc ?_ _)); refine blk_put (cs := #[.int .i64 t486, .int .i64 0, .int .i64 0, .int .i64 0]) ?_ 1 _ rfl; (with_reducible repeat (first | refine blk_drewN ?_ _ | refine blk_drew ?_ | refine blk_alloc ?_ _)); refine blk_put (cs := #[.int .i64 0, .int .i64 0, .int .i64 0, .int .i64 0]) ?_ 0 _ rfl; (with_reducible repeat (first | refine blk_drewN ?_ _ | refine blk_drew ?_ | refine blk_alloc ?_ _)); exact BK514.out⟩, ⟨by repeat (first | (with_reducible first | exact HI441.out | apply IsS62.alloc | apply IsS62.drewN | apply IsS62.drew | apply IsS62.set_0 | apply IsS62.set_1 | apply IsS62.set_2 | apply IsS62.set_3 | apply IsS62.set_4 | apply IsS62.set_5 | refine IsS62.far ?_ NB441_470.out _ | refine IsS62.far ?_ NB441_514.out _) | exact HI441.out)⟩, ⟨by repeat (first | (with_reducible first | exact HB.out | apply below_alloc | apply pw_below_drewN | apply below_drew1 | refine below_set ?_ (IsS62.ge HI441.out) | refine below_set ?_ GE470.out | refine below_set ?_ GE514.out) | exact HB.out)⟩⟩
                case rest =>
                  clear HC23
                  try clear c1
                  try clear c2
                  try clear p2
                  try clear c3
                  try clear c4
                  try clear p4
                  try clear q4
                  try clear hx4
                  try clear c5
                  try clear c6
                  try clear p6
                  try clear c7
                  try clear c9
                  try clear c9b0
                  try clear c10
                  try clear c12
                  try clear c15
                  try clear c16
                  try clear c16b0
                  try clear c17
                  try clear c17b0
                  try clear c20
                  try clear c21
                  try clear c22
                  try clear c23
                  try clear c29
                  try clear c38
                  try clear c39
                  try clear c40
                  try clear c41
                  try clear c41b0
                  try clear c41b1
                  try clear c42
                  try clear c43
                  try clear c43b0
                  try clear c43b1
                  try clear c44
                  try clear c45
                  try clear c47
                  try clear p47
                  try clear q47
                  try clear hx47
                  try clear c49
                  try clear c49b0
                  try clear c50
                  try clear c51
                  try clear c53
                  try clear c55
                  try clear c56
                  try clear c56b0
                  try clear c56b1
                  try clear c57
                  try clear c58
                  try clear c60
                  try clear c62
                  try clear c63
                  try clear p64
                  try clear c65
                  try clear c67
                  try clear c68
                  try clear c70
                  try clear hcz30_0
                  try clear hcz30_1
                  try clear hcz30_2
                  try clear hcz30_3
                  try clear hcz40_0
                  try clear hcz40_1
                  try clear hcz40_2
                  try clear hcz40_3
                  try clear hcz46_0
                  try clear hcz46_1
                  try clear hcz46_2
                  try clear hcz46_3
                  try clear hcz48_0
                  try clear hcz48_1
                  try clear hcz48_2
                  try clear hcz48_3
                  try clear hcz52_0
                  try clear hcz52_1
                  try clear hcz52_2
                  try clear hcz52_3
                  try clear hcz54_0
                  try clear hcz54_1
                  try clear hcz54_2
                  try clear hcz54_3
                  try clear hcz59_0
                  try clear hcz59_1
                  try clear hcz59_2
                  try clear hcz59_3
                  try clear hcz61_0
                  try clear hcz61_1
                  try clear hcz61_2
                  try clear hcz61_3
                  try clear hcz64_0
                  try clear hcz64_1
                  try clear hcz64_2
                  try clear hcz64_3
                  try clear hcz66_0
                  try clear hcz66_1
                  try clear hcz66_2
                  try clear hcz66_3
                  try clear hcz69_0
                  try clear hcz69_1
                  try clear hcz69_2
                  try clear hcz69_3
                  try clear hcz71_0
                  try clear hcz71_1
                  try clear hcz71_2
                  try clear hcz71_3
                  try clear hfz30_0
                  try clear hfz30_1
                  try clear hfz30_2
                  try clear hfz30_3
                  try clear hfz40_0
                  try clear hfz40_1
                  try clear hfz40_2
                  try clear hfz40_3
                  try clear hfz46_0
                  try clear hfz46_1
                  try clear hfz46_2
                  try clear hfz46_3
                  try clear hfz48_0
                  try clear hfz48_1
                  try clear hfz48_2
                  try clear hfz48_3
                  try clear hfz52_0
                  try clear hfz52_1
                  try clear hfz52_2
                  try clear hfz52_3
                  try clear hfz54_0
                  try clear hfz54_1
                  try clear hfz54_2
                  try clear hfz54_3
                  try clear hfz59_0
                  try clear hfz59_1
                  try clear hfz59_2
                  try clear hfz59_3
                  try clear hfz61_0
                  try clear hfz61_1
                  try clear hfz61_2
                  try clear hfz61_3
                  try clear hfz64_0
                  try clear hfz64_1
                  try clear hfz64_2
                  try clear hfz64_3
                  try clear hfz66_0
                  try clear hfz66_1
                  try clear hfz66_2
                  try clear hfz66_3
                  try clear hfz69_0
                  try clear hfz69_1
                  try clear hfz69_2
                  try clear hfz69_3
                  try clear hfz71_0
                  try clear hfz71_1
                  try clear hfz71_2
                  try clear hfz71_3
                  try clear hx478_0
                  try clear p2
                  try clear p478
                  try clear q478
                  obtain ⟨kq, x76_22, rfl, HA, HJ22, BK470, BK514, HI441, HB⟩ := hcut
                  cases kq with
                  | zero => exact absurd HA.out (by simp [millwrightlaw09_LifeBounds.j2])
                  | succ kj22 =>
                    have H := HA.out
                    clear HA
                    simp only [millwrightlaw09_LifeBounds.j2] at H
                    by_cases c72 : x76_22 = true
                    · subst c72
                      have H1 : (some false) = some true := by rw [if_pos rfl] at H; exact H
                      clear H
                      have H := H1
                      clear H1
                      exact absurd H (by simp)
                    · replace c72 := Bool.eq_false_iff.mpr c72
                      subst c72
                      have H1 : (if t486 < 0 then (some false) else (if t486 > 7 then (some false) else (if t500 > (mx a0 1) then (some false) else (if t507 > (mx a1 0) then (some false) else (if (wrap64 (t500 + t507)) > t493 then (some false) else (if t493 < t449 then (some false) else (if t493 > (wrap64 (t449 + 1)) then (some false) else (millwrightlaw09_LifeBounds.l0 kj22 a0 a1 l2 t434 (wrap64 (x9_1 + 1)) t508 t509 t510 t511 t512 t513)))))))) = some true := by rw [if_neg (show ¬ (false = true) by decide)] at H; exact H
                      clear H
                      have H := H1
                      clear H1
                      by_cases c73 : t486 < 0
                      · rw [if_pos c73] at H
                        have c73b0 : decide (t486 < 0) = true := decide_eq_true c73
                        clear c73
                        exact absurd H (by simp)
                      · rw [if_neg c73] at H
                        have c73b0 : decide (t486 < 0) = false := decide_eq_false c73
                        clear c73
                        by_cases c74 : t486 > 7
                        · rw [if_pos c74] at H
                          have c74b0 : decide (7 < t486) = true := decide_eq_true c74
                          clear c74
                          exact absurd H (by simp)
                        · rw [if_neg c74] at H
                          have c74b0 : decide (7 < t486) = false := decide_eq_false c74
                          clear c74
                          obtain ⟨ji75, hji75⟩ : ∃ j_ : Int, (mx a0 1) = j_ := ⟨_, rfl⟩
                          replace H : (if t500 > (ji75) then (some false) else (if t507 > (mx a1 0) then (some false) else (if (wrap64 (t500 + t507)) > t493 then (some false) else (if t493 < t449 then (some false) else (if t493 > (wrap64 (t449 + 1)) then (some false) else (millwrightlaw09_LifeBounds.l0 kj22 a0 a1 l2 t434 (wrap64 (x9_1 + 1)) t508 t509 t510 t511 t512 t513)))))) = some true := by first | (rw [hji75] at H; exact H) | (simp only [hji75] at H ⊢; exact H)
                          (try (have hji75l : 1 ≤ ji75 := by (rw [← hji75]; unfold mx; (repeat' split) <;> omega)))
                          (try (have hji75m : 0 ≤ ji75 := by omega))
                          have hji75_ : (if a0 < 1 then 1 else a0) = ji75 := hji75
                          by_cases c76 : t500 > (ji75)
                          · rw [if_pos c76] at H
                            have c76b0 : decide ((ji75) < t500) = true := decide_eq_true c76
                            clear c76
                            exact absurd H (by simp)
                          · rw [if_neg c76] at H
                            have c76b0 : decide ((ji75) < t500) = false := decide_eq_false c76
                            clear c76
                            obtain ⟨ji77, hji77⟩ : ∃ j_ : Int, (mx a1 0) = j_ := ⟨_, rfl⟩
                            replace H : (if t507 > (ji77) then (some false) else (if (wrap64 (t500 + t507)) > t493 then (some false) else (if t493 < t449 then (some false) else (if t493 > (wrap64 (t449 + 1)) then (some false) else (millwrightlaw09_LifeBounds.l0 kj22 a0 a1 l2 t434 (wrap64 (x9_1 + 1)) t508 t509 t510 t511 t512 t513))))) = some true := by first | (rw [hji77] at H; exact H) | (simp only [hji77] at H ⊢; exact H)
                            (try (have hji77l : 0 ≤ ji77 := by (rw [← hji77]; unfold mx; (repeat' split) <;> omega)))
                            (try (have hji77m : 0 ≤ ji77 := by omega))
                            have hji77_ : (if a1 < 0 then 0 else a1) = ji77 := hji77
                            by_cases c78 : t507 > (ji77)
                            · rw [if_pos c78] at H
                              have c78b0 : decide ((ji77) < t507) = true := decide_eq_true c78
                              clear c78
                              exact absurd H (by simp)
                            · rw [if_neg c78] at H
                              have c78b0 : decide ((ji77) < t507) = false := decide_eq_false c78
                              clear c78
                              by_cases c79 : (wrap64 (t500 + t507)) > t493
                              · rw [if_pos c79] at H
                                have c79b0 : decide (t493 < (wrap64 (t500 + t507))) = true := decide_eq_true c79
                                clear c79
                                exact absurd H (by simp)
                              · rw [if_neg c79] at H
                                have c79b0 : decide (t493 < (wrap64 (t500 + t507))) = false := decide_eq_false c79
                                clear c79
                                by_cases c80 : t493 < t449
                                · rw [if_pos c80] at H
                                  have c80b0 : decide (t493 < t449) = true := decide_eq_true c80
                                  clear c80
                                  exact absurd H (by simp)
                                · rw [if_neg c80] at H
                                  have c80b0 : decide (t493 < t449) = false := decide_eq_false c80
                                  clear c80
                                  by_cases c81 : t493 > (wrap64 (t449 + 1))
                                  · rw [if_pos c81] at H
                                    have c81b0 : decide ((wrap64 (t449 + 1)) < t493) = true := decide_eq_true c81
                                    clear c81
                                    exact absurd H (by simp)
                                  · rw [if_neg c81] at H
                                    have c81b0 : decide ((wrap64 (t449 + 1)) < t493) = false := decide_eq_false c81
                                    clear c81
                                    have H' := Aside0.mk H
                                    clear H
                                    have hnb82 := NB514_470.out
                                    have hnc82 := NB470_514.out
                                    have hnb83 := NB514_441.out
                                    have hnc83 := NB441_514.out
                                    have hcz84_0 : wc.cell? ⟨gb514, 0, none⟩ = some (.int .i64 t486) := (blk_cell BK514.out 0).trans rfl
                                    have hcz84_1 : wc.cell? ⟨gb514, 1, none⟩ = some (.int .i64 t493) := (blk_cell BK514.out 1).trans rfl
                                    have hcz84_2 : wc.cell? ⟨gb514, 2, none⟩ = some (.int .i64 t500) := (blk_cell BK514.out 2).trans rfl
                                    have hcz84_3 : wc.cell? ⟨gb514, 3, none⟩ = some (.int .i64 t507) := (blk_cell BK514.out 3).trans rfl
                                    have hfz84_0 := blk_frozen BK514.out 0
                                    have hfz84_1 := blk_frozen BK514.out 1
                                    have hfz84_2 := blk_frozen BK514.out 2
                                    have hfz84_3 := blk_frozen BK514.out 3
                                    have hnb85 := NB470_441.out
                                    have hnc85 := NB441_470.out
                                    have hcz86_0 : wc.cell? ⟨gb470, 0, none⟩ = some (.int .i64 t442) := (blk_cell BK470.out 0).trans rfl
                                    have hcz86_1 : wc.cell? ⟨gb470, 1, none⟩ = some (.int .i64 t449) := (blk_cell BK470.out 1).trans rfl
                                    have hcz86_2 : wc.cell? ⟨gb470, 2, none⟩ = some (.int .i64 t456) := (blk_cell BK470.out 2).trans rfl
                                    have hcz86_3 : wc.cell? ⟨gb470, 3, none⟩ = some (.int .i64 t463) := (blk_cell BK470.out 3).trans rfl
                                    have hfz86_0 := blk_frozen BK470.out 0
                                    have hfz86_1 := blk_frozen BK470.out 1
                                    have hfz86_2 := blk_frozen BK470.out 2
                                    have hfz86_3 := blk_frozen BK470.out 3
                                    go_wp2
                                    go_roundg kj22
                                    case measure => have := HK1.out; have := HJ7.out; have := HJ22.out; omega
                                    case rel => exact ⟨(wrap64 (x9_1 + 1)), (t508), (t509), (t510), (t511), (t512), (t513), (by first | rfl | (simp; done) | (simp [*]; done)), H', ⟨by have := HK1.out; have := HJ7.out; have := HJ22.out; omega⟩, ⟨by repeat (first | (with_reducible first | exact HI441.out | apply IsS62.alloc | apply IsS62.drewN | apply IsS62.drew | apply IsS62.set_0 | apply IsS62.set_1 | apply IsS62.set_2 | apply IsS62.set_3 | apply IsS62.set_4 | apply IsS62.set_5 | refine IsS62.far ?_ NB441_470.out _ | refine IsS62.far ?_ NB441_514.out _) | exact HI441.out)⟩, ⟨by repeat (first | (with_reducible first | exact HB.out | apply below_alloc | apply pw_below_drewN | apply below_drew1 | refine below_set ?_ (IsS62.ge HI441.out) | refine below_set ?_ GE470.out | refine below_set ?_ GE514.out) | exact HB.out)⟩⟩
              · rw [if_neg c17] at H
                exact absurd H (by simp)
            · rw [if_neg c16] at H
              exact absurd H (by simp)
          · replace c10 := Bool.eq_false_iff.mpr c10
            subst c10
            have H1 : (some t434) = some true := by rw [if_neg (show ¬ (false = true) by decide)] at H; exact H
            clear H
            have H := H1
            clear H1
            have HT_ := Option.some.inj H
            clear H
            go_wp2
            go_ret
            exact ⟨by first | rfl | (simp [errW_none, errW_some] <;> rfl) | (simp [*, errW_none, errW_some] <;> rfl), by repeat (first | (with_reducible first | exact HB.out | apply below_alloc | apply pw_below_drewN | apply below_drew1 | refine below_set ?_ (IsS62.ge HI441.out)) | exact HB.out)⟩

/-- THE ONE PURE STATEMENT of millwrightlaw09_LifeBounds: yours. -/
def millwrightlaw09_LifeBounds.Pure : Prop := ∀ (a0 : Int) (a1 : Int) (l2 : List Int), (Lit.int .i64 a0).wf = true → (Lit.int .i64 a1).wf = true → l2.length ≤ maxLen → l2.length * 1 ≤ 140737488351232 → (∀ x ∈ l2, (Lit.int .u8 x).wf = true) → ∃ k, millwrightlaw09_LifeBounds.f k a0 a1 l2 = some true
theorem millwrightlaw09_LifeBounds.walk (P : millwrightlaw09_LifeBounds.Pure) (a0 : Int) (a1 : Int) (a2 : Option Addr) (len2 cap2 : Nat) (z2 : List Int) (w : World) (w0 : (Lit.int .i64 a0).wf = true) (w1 : (Lit.int .i64 a1).wf = true) (w2 : (a2 = none ∧ len2 = 0 ∧ cap2 = 0 ∧ z2 = []) ∨ ∃ x, a2 = some x ∧ len2 ≤ cap2 ∧ cap2 ≤ maxLen ∧ z2.length = cap2 ∧ (∀ i, i < z2.length → w.cell? (x.add i) = some (.int .u8 (z2.getD i 0))) ∧ ∀ n ∈ z2, (Lit.int .u8 n).wf = true) (y2 : len2 * 1 ≤ 140737488351232) :
    Calls Try.prog 12 #[.int .i64 a0, .int .i64 a1, .slice a2 len2 cap2] w fun e w' => e = .returned (.bool true) ∧ Below w.heap.size w w' := by
  obtain ⟨l2, rfl, hr2, hm2, hw2, hc2⟩ := ReadsInt.ofRowC w2
  obtain ⟨k, h⟩ := P a0 a1 l2 w0 w1 hm2 y2 hw2
  refine (millwrightlaw09_LifeBounds.calls k a0 a1 _ _ l2 w (Kd.C_of_reads (d := (0 : Int)) (h1 := fun _ => rfl) hr2) hc2 h).mono ?_
  rintro e w' ⟨rfl, hd⟩
  exact ⟨rfl, hd⟩

end Go.Proofs.Ytkldfjlbgmppfab.MLifeBounds
