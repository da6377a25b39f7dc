-- Written by a program of this session out of Lean's own print of the program. Not trusted: Lean checks it.
import Derived.Test.YtkldfjlbgmppfabMLifeOncex0
import Derived.Test.YtkldfjlbgmppfabMLifeOncex1
import Derived.Test.YtkldfjlbgmppfabMLifeOncex2
import Derived.Test.YtkldfjlbgmppfabMLifeOncex3
namespace Go.Proofs.Ytkldfjlbgmppfab.MLifeOnce
open Go.RowKit Go.Proofs.YtkldfjlbgmppfabW.PrintWords Go.Proofs.YtkldfjlbgmppfabW.PrintLast Go.Proofs.YtkldfjlbgmppfabW.PrintMore
attribute [local go_sem] max2_int min2_int max_two min_two max_three min_three max_four min_four   -- for this text's walks alone
set_option linter.unusedVariables false
set_option linter.unusedSimpArgs false

/-! ### millwrightlaw09_LifeOnce: function 13 -/
mutual
def millwrightlaw09_LifeOnce.l0 : Nat → List Int → Bool → Int → Int → Int → Int → Int → Int → Int → Int → Option (Bool)
  | 0, _, _, _, _, _, _, _, _, _, _ => none
  | k + 1, x2, x7, x9, x10, x442000, x442001, x442002, x442003, x442004, x442005 => if x10 < (x2.length : Int) then (millwrightlaw09_LifeOnce.j1 k x2 x7 x9 x10 (decide (x10 < 300)) x442000 x442001 x442002 x442003 x442004 x442005) else (millwrightlaw09_LifeOnce.j1 k x2 x7 x9 x10 false x442000 x442001 x442002 x442003 x442004 x442005)
def millwrightlaw09_LifeOnce.j1 : Nat → List Int → Bool → Int → Int → Bool → Int → Int → Int → Int → Int → Int → Option (Bool)
  | 0, _, _, _, _, _, _, _, _, _, _, _ => none
  | k + 1, x2, x7, x9, x10, x27, x442000, x442001, x442002, x442003, x442004, x442005 => if x27 = true then (if 0 ≤ x10 then (if x10 < (x2.length : Int) then ((millwrightlaw09_does.f k x442000 x442001 x442002 x442003 x442004 x442005 (wrap64 (Int.tmod (rd x2 x10) 11))).bind fun bt443 => ((life_Life_Epoch.f bt443.2.1 bt443.2.2.1 bt443.2.2.2.1 bt443.2.2.2.2.1 bt443.2.2.2.2.2.1 bt443.2.2.2.2.2.2).bind fun bt450 => ((life_Life_State.f bt450.2.1 bt450.2.2.1 bt450.2.2.2.1 bt450.2.2.2.2.1 bt450.2.2.2.2.2.1 bt450.2.2.2.2.2.2).bind fun bt457 => (if bt457.1 = 2 then (if bt450.1 > 301 then (millwrightlaw09_LifeOnce.j2 k x2 x7 x9 x10 bt450.1 true true bt457.2.1 bt457.2.2.1 bt457.2.2.2.1 bt457.2.2.2.2.1 bt457.2.2.2.2.2.1 bt457.2.2.2.2.2.2) else (millwrightlaw09_LifeOnce.j2 k x2 x7 x9 x10 bt450.1 true (decide (bt450.1 ≤ x9)) bt457.2.1 bt457.2.2.1 bt457.2.2.2.1 bt457.2.2.2.2.1 bt457.2.2.2.2.2.1 bt457.2.2.2.2.2.2)) else (if bt450.1 > 301 then (millwrightlaw09_LifeOnce.j4 k x2 x7 bt450.1 x10 bt450.1 false true bt457.2.1 bt457.2.2.1 bt457.2.2.2.1 bt457.2.2.2.2.1 bt457.2.2.2.2.2.1 bt457.2.2.2.2.2.2) else (millwrightlaw09_LifeOnce.j4 k x2 x7 bt450.1 x10 bt450.1 false false bt457.2.1 bt457.2.2.1 bt457.2.2.2.1 bt457.2.2.2.2.1 bt457.2.2.2.2.2.1 bt457.2.2.2.2.2.2)))))) else (none)) else (none)) else (some x7)
def millwrightlaw09_LifeOnce.j2 : Nat → List Int → Bool → Int → Int → Int → Bool → Bool → Int → Int → Int → Int → Int → Int → Option (Bool)
  | 0, _, _, _, _, _, _, _, _, _, _, _, _, _ => none
  | k + 1, x2, x7, x9, x10, x11, x12, x55, x442000, x442001, x442002, x442003, x442004, x442005 => if x55 = true then (some false) else (millwrightlaw09_LifeOnce.l1 k x2 x7 x9 x10 x11 x12 (-1) x442000 x442001 x442002 x442003 x442004 x442005)
def millwrightlaw09_LifeOnce.l1 : Nat → List Int → Bool → Int → Int → Int → Bool → Int → Int → Int → Int → Int → Int → Int → Option (Bool)
  | 0, _, _, _, _, _, _, _, _, _, _, _, _, _ => none
  | k + 1, x2, x7, x9, x10, x11, x12, x13, x442000, x442001, x442002, x442003, x442004, x442005 => if x13 ≤ (wrap64 (x11 + 1)) then ((life_Life_Right.f x442000 x442001 x442002 x442003 x442004 x442005 x13).bind fun bt464 => (if x12 = true then (if bt464.1 = 0 then (if x13 = x11 then (millwrightlaw09_LifeOnce.l1 k x2 x7 x9 x10 x11 x12 (wrap64 (x13 + 1)) bt464.2.1 bt464.2.2.1 bt464.2.2.2.1 bt464.2.2.2.2.1 bt464.2.2.2.2.2.1 bt464.2.2.2.2.2.2) else (some false)) else (if x13 = x11 then (some false) else (millwrightlaw09_LifeOnce.l1 k x2 x7 x9 x10 x11 x12 (wrap64 (x13 + 1)) bt464.2.1 bt464.2.2.1 bt464.2.2.2.1 bt464.2.2.2.2.1 bt464.2.2.2.2.2.1 bt464.2.2.2.2.2.2))) else (if bt464.1 = 0 then (some false) else (millwrightlaw09_LifeOnce.l1 k x2 x7 x9 x10 x11 x12 (wrap64 (x13 + 1)) bt464.2.1 bt464.2.2.1 bt464.2.2.2.1 bt464.2.2.2.2.1 bt464.2.2.2.2.2.1 bt464.2.2.2.2.2.2)))) else (millwrightlaw09_LifeOnce.l0 k x2 x7 x9 (wrap64 (x10 + 1)) x442000 x442001 x442002 x442003 x442004 x442005)
def millwrightlaw09_LifeOnce.j4 : Nat → List Int → Bool → Int → Int → Int → Bool → Bool → Int → Int → Int → Int → Int → Int → Option (Bool)
  | 0, _, _, _, _, _, _, _, _, _, _, _, _, _ => none
  | k + 1, x2, x7, x9, x10, x11, x12, x55, x442000, x442001, x442002, x442003, x442004, x442005 => if x55 = true then (some false) else (millwrightlaw09_LifeOnce.l1 k x2 x7 x9 x10 x11 x12 (-1) x442000 x442001 x442002 x442003 x442004 x442005)
end
def millwrightlaw09_LifeOnce.f (k : Nat) (a0 : Int) (a1 : Int) (l2 : List Int) : Option (Bool) := (millwrightlaw09_shown.f k).bind fun t434 => ((life_New.f a0 a1).bind fun bt435 => (millwrightlaw09_LifeOnce.l0 k l2 t434 0 0 bt435.1 bt435.2.1 bt435.2.2.1 bt435.2.2.2.1 bt435.2.2.2.2.1 bt435.2.2.2.2.2))
theorem millwrightlaw09_LifeOnce.mono_l : ∀ k, (∀ y0 y1 y2 y3 y4 y5 y6 y7 y8 y9, LeO (millwrightlaw09_LifeOnce.l0 k y0 y1 y2 y3 y4 y5 y6 y7 y8 y9) (millwrightlaw09_LifeOnce.l0 (k + 1) y0 y1 y2 y3 y4 y5 y6 y7 y8 y9)) ∧ (∀ y0 y1 y2 y3 y4 y5 y6 y7 y8 y9 y10, LeO (millwrightlaw09_LifeOnce.j1 k y0 y1 y2 y3 y4 y5 y6 y7 y8 y9 y10) (millwrightlaw09_LifeOnce.j1 (k + 1) y0 y1 y2 y3 y4 y5 y6 y7 y8 y9 y10)) ∧ (∀ y0 y1 y2 y3 y4 y5 y6 y7 y8 y9 y10 y11 y12, LeO (millwrightlaw09_LifeOnce.j2 k y0 y1 y2 y3 y4 y5 y6 y7 y8 y9 y10 y11 y12) (millwrightlaw09_LifeOnce.j2 (k + 1) y0 y1 y2 y3 y4 y5 y6 y7 y8 y9 y10 y11 y12)) ∧ (∀ y0 y1 y2 y3 y4 y5 y6 y7 y8 y9 y10 y11 y12, LeO (millwrightlaw09_LifeOnce.l1 k y0 y1 y2 y3 y4 y5 y6 y7 y8 y9 y10 y11 y12) (millwrightlaw09_LifeOnce.l1 (k + 1) y0 y1 y2 y3 y4 y5 y6 y7 y8 y9 y10 y11 y12)) ∧ (∀ y0 y1 y2 y3 y4 y5 y6 y7 y8 y9 y10 y11 y12, LeO (millwrightlaw09_LifeOnce.j4 k y0 y1 y2 y3 y4 y5 y6 y7 y8 y9 y10 y11 y12) (millwrightlaw09_LifeOnce.j4 (k + 1) y0 y1 y2 y3 y4 y5 y6 y7 y8 y9 y10 y11 y12))
  | 0 => ⟨fun _ _ _ _ _ _ _ _ _ _ r h => by simp [millwrightlaw09_LifeOnce.l0] at h, fun _ _ _ _ _ _ _ _ _ _ _ r h => by simp [millwrightlaw09_LifeOnce.j1] at h, fun _ _ _ _ _ _ _ _ _ _ _ _ _ r h => by simp [millwrightlaw09_LifeOnce.j2] at h, fun _ _ _ _ _ _ _ _ _ _ _ _ _ r h => by simp [millwrightlaw09_LifeOnce.l1] at h, fun _ _ _ _ _ _ _ _ _ _ _ _ _ r h => by simp [millwrightlaw09_LifeOnce.j4] at h⟩
  | k + 1 => by
    obtain ⟨ih0, ih1, ih2, ih3, ih4⟩ := millwrightlaw09_LifeOnce.mono_l k
    refine ⟨?_, ?_, ?_, ?_, ?_⟩
    · intro y0 y1 y2 y3 y4 y5 y6 y7 y8 y9
      unfold millwrightlaw09_LifeOnce.l0
      repeat' first
      | (with_reducible exact ih0 _ _ _ _ _ _ _ _ _ _)
      | (with_reducible exact ih1 _ _ _ _ _ _ _ _ _ _ _)
      | (with_reducible exact ih2 _ _ _ _ _ _ _ _ _ _ _ _ _)
      | (with_reducible exact ih3 _ _ _ _ _ _ _ _ _ _ _ _ _)
      | (with_reducible exact ih4 _ _ _ _ _ _ _ _ _ _ _ _ _)
      | (with_reducible exact millwrightlaw09_does.mono _ _ _ _ _ _ _ _)
      | (with_reducible exact millwrightlaw09_shown.mono _)
      | (with_reducible exact LeO.refl _)
      | (with_reducible exact LeO.none _)
      | (with_reducible refine LeO.ite ?_ ?_)
      | (with_reducible refine LeO.bind ?_ (fun _ => ?_))
      | exact ih0 _ _ _ _ _ _ _ _ _ _
      | exact ih1 _ _ _ _ _ _ _ _ _ _ _
      | exact ih2 _ _ _ _ _ _ _ _ _ _ _ _ _
      | exact ih3 _ _ _ _ _ _ _ _ _ _ _ _ _
      | exact ih4 _ _ _ _ _ _ _ _ _ _ _ _ _
      | exact millwrightlaw09_does.mono _ _ _ _ _ _ _ _
      | exact millwrightlaw09_shown.mono _
      | exact LeO.none _
      | refine LeO.ite ?_ ?_
      | refine LeO.bind ?_ (fun _ => ?_)
    · intro y0 y1 y2 y3 y4 y5 y6 y7 y8 y9 y10
      unfold millwrightlaw09_LifeOnce.j1
      repeat' first
      | (with_reducible exact ih0 _ _ _ _ _ _ _ _ _ _)
      | (with_reducible exact ih1 _ _ _ _ _ _ _ _ _ _ _)
      | (with_reducible exact ih2 _ _ _ _ _ _ _ _ _ _ _ _ _)
      | (with_reducible exact ih3 _ _ _ _ _ _ _ _ _ _ _ _ _)
      | (with_reducible exact ih4 _ _ _ _ _ _ _ _ _ _ _ _ _)
      | (with_reducible exact millwrightlaw09_does.mono _ _ _ _ _ _ _ _)
      | (with_reducible exact millwrightlaw09_shown.mono _)
      | (with_reducible exact LeO.refl _)
      | (with_reducible exact LeO.none _)
      | (with_reducible refine LeO.ite ?_ ?_)
      | (with_reducible refine LeO.bind ?_ (fun _ => ?_))
      | exact ih0 _ _ _ _ _ _ _ _ _ _
      | exact ih1 _ _ _ _ _ _ _ _ _ _ _
      | exact ih2 _ _ _ _ _ _ _ _ _ _ _ _ _
      | exact ih3 _ _ _ _ _ _ _ _ _ _ _ _ _
      | exact ih4 _ _ _ _ _ _ _ _ _ _ _ _ _
      | exact millwrightlaw09_does.mono _ _ _ _ _ _ _ _
      | exact millwrightlaw09_shown.mono _
      | exact LeO.none _
      | refine LeO.ite ?_ ?_
      | refine LeO.bind ?_ (fun _ => ?_)
    · intro y0 y1 y2 y3 y4 y5 y6 y7 y8 y9 y10 y11 y12
      unfold millwrightlaw09_LifeOnce.j2
      repeat' first
      | (with_reducible exact ih0 _ _ _ _ _ _ _ _ _ _)
      | (with_reducible exact ih1 _ _ _ _ _ _ _ _ _ _ _)
      | (with_reducible exact ih2 _ _ _ _ _ _ _ _ _ _ _ _ _)
      | (with_reducible exact ih3 _ _ _ _ _ _ _ _ _ _ _ _ _)
      | (with_reducible exact ih4 _ _ _ _ _ _ _ _ _ _ _ _ _)
      | (with_reducible exact millwrightlaw09_does.mono _ _ _ _ _ _ _ _)
      | (with_reducible exact millwrightlaw09_shown.mono _)
      | (with_reducible exact LeO.refl _)
      | (with_reducible exact LeO.none _)
      | (with_reducible refine LeO.ite ?_ ?_)
      | (with_reducible refine LeO.bind ?_ (fun _ => ?_))
      | exact ih0 _ _ _ _ _ _ _ _ _ _
      | exact ih1 _ _ _ _ _ _ _ _ _ _ _
      | exact ih2 _ _ _ _ _ _ _ _ _ _ _ _ _
      | exact ih3 _ _ _ _ _ _ _ _ _ _ _ _ _
      | exact ih4 _ _ _ _ _ _ _ _ _ _ _ _ _
      | exact millwrightlaw09_does.mono _ _ _ _ _ _ _ _
      | exact millwrightlaw09_shown.mono _
      | exact LeO.none _
      | refine LeO.ite ?_ ?_
      | refine LeO.bind ?_ (fun _ => ?_)
    · intro y0 y1 y2 y3 y4 y5 y6 y7 y8 y9 y10 y11 y12
      unfold millwrightlaw09_LifeOnce.l1
      repeat' first
      | (with_reducible exact ih0 _ _ _ _ _ _ _ _ _ _)
      | (with_reducible exact ih1 _ _ _ _ _ _ _ _ _ _ _)
      | (with_reducible exact ih2 _ _ _ _ _ _ _ _ _ _ _ _ _)
      | (with_reducible exact ih3 _ _ _ _ _ _ _ _ _ _ _ _ _)
      | (with_reducible exact ih4 _ _ _ _ _ _ _ _ _ _ _ _ _)
      | (with_reducible exact millwrightlaw09_does.mono _ _ _ _ _ _ _ _)
      | (with_reducible exact millwrightlaw09_shown.mono _)
      | (with_reducible exact LeO.refl _)
      | (with_reducible exact LeO.none _)
      | (with_reducible refine LeO.ite ?_ ?_)
      | (with_reducible refine LeO.bind ?_ (fun _ => ?_))
      | exact ih0 _ _ _ _ _ _ _ _ _ _
      | exact ih1 _ _ _ _ _ _ _ _ _ _ _
      | exact ih2 _ _ _ _ _ _ _ _ _ _ _ _ _
      | exact ih3 _ _ _ _ _ _ _ _ _ _ _ _ _
      | exact ih4 _ _ _ _ _ _ _ _ _ _ _ _ _
      | exact millwrightlaw09_does.mono _ _ _ _ _ _ _ _
      | exact millwrightlaw09_shown.mono _
      | exact LeO.none _
      | refine LeO.ite ?_ ?_
      | refine LeO.bind ?_ (fun _ => ?_)
    · intro y0 y1 y2 y3 y4 y5 y6 y7 y8 y9 y10 y11 y12
      unfold millwrightlaw09_LifeOnce.j4
      repeat' first
      | (with_reducible exact ih0 _ _ _ _ _ _ _ _ _ _)
      | (with_reducible exact ih1 _ _ _ _ _ _ _ _ _ _ _)
      | (with_reducible exact ih2 _ _ _ _ _ _ _ _ _ _ _ _ _)
      | (with_reducible exact ih3 _ _ _ _ _ _ _ _ _ _ _ _ _)
      | (with_reducible exact ih4 _ _ _ _ _ _ _ _ _ _ _ _ _)
      | (with_reducible exact millwrightlaw09_does.mono _ _ _ _ _ _ _ _)
      | (with_reducible exact millwrightlaw09_shown.mono _)
      | (with_reducible exact LeO.refl _)
      | (with_reducible exact LeO.none _)
      | (with_reducible refine LeO.ite ?_ ?_)
      | (with_reducible refine LeO.bind ?_ (fun _ => ?_))
      | exact ih0 _ _ _ _ _ _ _ _ _ _
      | exact ih1 _ _ _ _ _ _ _ _ _ _ _
      | exact ih2 _ _ _ _ _ _ _ _ _ _ _ _ _
      | exact ih3 _ _ _ _ _ _ _ _ _ _ _ _ _
      | exact ih4 _ _ _ _ _ _ _ _ _ _ _ _ _
      | exact millwrightlaw09_does.mono _ _ _ _ _ _ _ _
      | exact millwrightlaw09_shown.mono _
      | exact LeO.none _
      | refine LeO.ite ?_ ?_
      | refine LeO.bind ?_ (fun _ => ?_)
theorem millwrightlaw09_LifeOnce.mono : ∀ a0 a1 a2 k, LeO (millwrightlaw09_LifeOnce.f k a0 a1 a2) (millwrightlaw09_LifeOnce.f (k + 1) a0 a1 a2) := by
  intro a0 a1 a2 k
  obtain ⟨ih0, ih1, ih2, ih3, ih4⟩ := millwrightlaw09_LifeOnce.mono_l k
  unfold millwrightlaw09_LifeOnce.f
  repeat' first
      | (with_reducible exact ih0 _ _ _ _ _ _ _ _ _ _)
      | (with_reducible exact ih1 _ _ _ _ _ _ _ _ _ _ _)
      | (with_reducible exact ih2 _ _ _ _ _ _ _ _ _ _ _ _ _)
      | (with_reducible exact ih3 _ _ _ _ _ _ _ _ _ _ _ _ _)
      | (with_reducible exact ih4 _ _ _ _ _ _ _ _ _ _ _ _ _)
      | (with_reducible exact millwrightlaw09_does.mono _ _ _ _ _ _ _ _)
      | (with_reducible exact millwrightlaw09_shown.mono _)
      | (with_reducible exact LeO.refl _)
      | (with_reducible exact LeO.none _)
      | (with_reducible refine LeO.ite ?_ ?_)
      | (with_reducible refine LeO.bind ?_ (fun _ => ?_))
      | exact ih0 _ _ _ _ _ _ _ _ _ _
      | exact ih1 _ _ _ _ _ _ _ _ _ _ _
      | exact ih2 _ _ _ _ _ _ _ _ _ _ _ _ _
      | exact ih3 _ _ _ _ _ _ _ _ _ _ _ _ _
      | exact ih4 _ _ _ _ _ _ _ _ _ _ _ _ _
      | exact millwrightlaw09_does.mono _ _ _ _ _ _ _ _
      | exact millwrightlaw09_shown.mono _
      | exact LeO.none _
      | refine LeO.ite ?_ ?_
      | refine LeO.bind ?_ (fun _ => ?_)
set_option maxHeartbeats 8000000 in
set_option maxRecDepth 100000 in
theorem millwrightlaw09_LifeOnce.calls (k : Nat) (a0 : Int) (a1 : Int) (A2 : Option Addr) (c2 : Nat) (l2 : List Int) (w : World) (hr2 : Kd.C (Kd.int .u8) w A2 l2.length l2) (hc2 : l2.length ≤ c2) (h : millwrightlaw09_LifeOnce.f k a0 a1 l2 = some true) :
    Calls Try.prog 13 #[.int .i64 a0, .int .i64 a1, .slice A2 l2.length c2] w fun e w' => e = .returned (.bool true) ∧ Below w.heap.size w w' := by
  have HR2 := Aside0.mk hr2
  have HC2 := Aside0.mk hc2
  clear hr2 hc2
  have HB := Aside0.mk (Below.refl w.heap.size w)
  have H : ((millwrightlaw09_shown.f k).bind fun t434 => ((life_New.f a0 a1).bind fun bt435 => (millwrightlaw09_LifeOnce.l0 k l2 t434 0 0 bt435.1 bt435.2.1 bt435.2.2.1 bt435.2.2.2.1 bt435.2.2.2.2.1 bt435.2.2.2.2.2))) = some true := h
  clear h
  replace H := Option.bind_eq_some_iff.mp H
  obtain ⟨t434, A40, H⟩ := H
  replace H : ((life_New.f a0 a1).bind fun bt435 => (millwrightlaw09_LifeOnce.l0 k l2 t434 0 0 bt435.1 bt435.2.1 bt435.2.2.1 bt435.2.2.2.1 bt435.2.2.2.2.1 bt435.2.2.2.2.2)) = some true := H
  have A4 := Aside0.mk A40
  clear A40
  replace H := Option.bind_eq_some_iff.mp H
  obtain ⟨⟨t435, t436, t437, t438, t439, t440⟩, A50, H⟩ := H
  replace H : (millwrightlaw09_LifeOnce.l0 k l2 t434 0 0 t435 t436 t437 t438 t439 t440) = some true := H
  have A5 := Aside0.mk A50
  clear A50
  have H' := Aside0.mk H
  clear H
  go_enter Try.func13, Try.ntmps13
  go_wp2_with (first | ((with_reducible refine gate_callee (f := 15) rfl ?_); refine goesL_ (some 14) rfl rfl Try.func15 (by kernel_rfl) rfl #[] rfl (by (try simp only [List.map_toArray, List.map_cons, List.map_nil]); first | done | rfl | (simp only [List.length_drop, List.length_take]; rfl)) ?_; (with_reducible refine (millwrightlaw09_shown.calls k  t434 _ A4.out).mono ?_); rintro e w6 ⟨rfl, hb⟩; refine ⟨_, rfl, ?_⟩; have n0_ := Aside0.mk (below_step (by repeat (first | (with_reducible first | exact HB.out | apply below_alloc | apply pw_below_drewN | apply below_drew1) | exact HB.out)) hb); clear HB; have HB := n0_; clear n0_; (try clear hb); (try clear hb2); (try clear hk); (try clear hi)) | ((with_reducible refine gate_callee (f := 16) rfl ?_); refine goesL_ (some 17) rfl rfl Try.func16 (by kernel_rfl) rfl #[.int .i64 a0, .int .i64 a1] rfl (by (try simp only [List.map_toArray, List.map_cons, List.map_nil]); first | done | rfl | (simp only [List.length_drop, List.length_take]; rfl)) ?_; (with_reducible refine (life_New.calls a0 a1 t435 t436 t437 t438 t439 t440 w _ ?side1 A5.out).mono ?_); (case side1 => repeat (first | (with_reducible first | exact HB.out | apply below_alloc | apply pw_below_drewN | apply below_drew1) | exact HB.out)); rintro e w7 ⟨g441, rfl, hi, hb, hb2⟩; refine ⟨_, rfl, ?_⟩; have n0_ := Aside0.mk (hb); have n1_ := Aside0.mk (hi); clear HB; have HB := n0_; have HI441 := n1_; clear n0_ n1_; (try clear hb); (try clear hb2); (try clear hk); (try clear hi)))
  go_loopg [9, 10] k (fun kq v9 v10 w' => ∃ (x9_1 : Int) (x10_1 : Int) (x442000_1 : Int) (x442001_1 : Int) (x442002_1 : Int) (x442003_1 : Int) (x442004_1 : Int) (x442005_1 : Int), v9 = .int .i64 x9_1 ∧ v10 = .int .i64 x10_1 ∧ Aside0 (millwrightlaw09_LifeOnce.l0 kq l2 t434 x9_1 x10_1 x442000_1 x442001_1 x442002_1 x442003_1 x442004_1 x442005_1 = some true) ∧ Aside0 (kq ≤ k) ∧ Aside0 (IsS62 w w' g441 x442000_1 x442001_1 x442002_1 x442003_1 x442004_1 x442005_1) ∧ Aside0 (Below w.heap.size w w'))
  case atStart => exact ⟨(0), (0), (t435), (t436), (t437), (t438), (t439), (t440), (by first | rfl | (simp; done) | (simp [*]; done)), (by first | rfl | (simp; done) | (simp [*]; done)), H', ⟨Nat.le_refl _⟩, ⟨by repeat (first | (with_reducible first | exact HI441.out | apply IsS62.alloc | apply IsS62.drewN | apply IsS62.drew | apply IsS62.set_0 | apply IsS62.set_1 | apply IsS62.set_2 | apply IsS62.set_3 | apply IsS62.set_4 | apply IsS62.set_5) | exact HI441.out)⟩, ⟨by repeat (first | (with_reducible first | exact HB.out | apply below_alloc | apply pw_below_drewN | apply below_drew1 | refine below_set ?_ (IsS62.ge HI441.out)) | exact HB.out)⟩⟩
  case round =>
    clear H'
    try clear c1
    try clear c2
    try clear p2
    obtain ⟨x9_1, x10_1, x442000_1, x442001_1, x442002_1, x442003_1, x442004_1, x442005_1, rfl, rfl, HA, HK1, HI441, HB⟩ := hrel
    cases gk with
    | zero => exact absurd HA.out (by simp [millwrightlaw09_LifeOnce.l0])
    | succ k1 =>
      have H := HA.out
      clear HA
      simp only [millwrightlaw09_LifeOnce.l0] at H
      have HC8 := Aside0.mk H
      clear H
      go_upto_region 7 with (fail)
      go_cut [27] (fun v27 wc => ∃ (kq : Nat) (x27_7 : Bool), v27 = .bool x27_7 ∧ Aside0 (millwrightlaw09_LifeOnce.j1 kq l2 t434 x9_1 x10_1 x27_7 x442000_1 x442001_1 x442002_1 x442003_1 x442004_1 x442005_1 = some true) ∧ Aside0 (kq ≤ k1) ∧ Aside0 (IsS62 w wc g441 x442000_1 x442001_1 x442002_1 x442003_1 x442004_1 x442005_1) ∧ Aside0 (Below w.heap.size w wc))
      case first =>
        have H := HC8.out
        clear HC8
        by_cases c9 : x10_1 < (l2.length : Int)
        · rw [if_pos c9] at H
          have c9b0 : decide (x10_1 < (l2.length : Int)) = true := decide_eq_true c9
          clear c9
          (first | rw [c9b0] | (simp only [i64_w, i32_w]; rw [c9b0]) | skip)
          have H' := Aside0.mk H
          clear H
          go_wp2
          first | go_meet | (refine Met.intro ?_; go_step; (try rw [c9b0]); (repeat apply Exists.intro); refine ⟨?rel, rfl⟩)
          case rel => exact ⟨_, (decide (x10_1 < 300)), (by first | rfl | (simp; done) | (simp [*]; done)), H', ⟨by have := HK1.out; first | omega | exact Nat.le_refl _⟩, ⟨by repeat (first | (with_reducible first | exact HI441.out | apply IsS62.alloc | apply IsS62.drewN | apply IsS62.drew | apply IsS62.set_0 | apply IsS62.set_1 | apply IsS62.set_2 | apply IsS62.set_3 | apply IsS62.set_4 | apply IsS62.set_5) | exact HI441.out)⟩, ⟨by repeat (first | (with_reducible first | exact HB.out | apply below_alloc | apply pw_below_drewN | apply below_drew1 | refine below_set ?_ (IsS62.ge HI441.out)) | exact HB.out)⟩⟩
        · rw [if_neg c9] at H
          have c9b0 : decide (x10_1 < (l2.length : Int)) = false := decide_eq_false c9
          clear c9
          (first | rw [c9b0] | (simp only [i64_w, i32_w]; rw [c9b0]) | skip)
          have H' := Aside0.mk H
          clear H
          go_wp2
          first | go_meet | (refine Met.intro ?_; go_step; (try rw [c9b0]); (repeat apply Exists.intro); refine ⟨?rel, rfl⟩)
          case rel => exact ⟨_, (false), (by first | rfl | (simp; done) | (simp [*]; done)), H', ⟨by have := HK1.out; first | omega | exact Nat.le_refl _⟩, ⟨by repeat (first | (with_reducible first | exact HI441.out | apply IsS62.alloc | apply IsS62.drewN | apply IsS62.drew | apply IsS62.set_0 | apply IsS62.set_1 | apply IsS62.set_2 | apply IsS62.set_3 | apply IsS62.set_4 | apply IsS62.set_5) | exact HI441.out)⟩, ⟨by repeat (first | (with_reducible first | exact HB.out | apply below_alloc | apply pw_below_drewN | apply below_drew1 | refine below_set ?_ (IsS62.ge HI441.out)) | exact HB.out)⟩⟩
      case rest =>
        clear HC8
        try clear c1
        try clear c2
        try clear p2
        try clear c9
        try clear c9b0
        try clear p2
        obtain ⟨kq, x27_7, rfl, HA, HJ7, HI441, HB⟩ := hcut
        cases kq with
        | zero => exact absurd HA.out (by simp [millwrightlaw09_LifeOnce.j1])
        | succ kj7 =>
          have H := HA.out
          clear HA
          simp only [millwrightlaw09_LifeOnce.j1] at H
          by_cases c10 : x27_7 = true
          · subst c10
            have H1 : (if 0 ≤ x10_1 then (if x10_1 < (l2.length : Int) then ((millwrightlaw09_does.f kj7 x442000_1 x442001_1 x442002_1 x442003_1 x442004_1 x442005_1 (wrap64 (Int.tmod (rd l2 x10_1) 11))).bind fun bt443 => ((life_Life_Epoch.f bt443.2.1 bt443.2.2.1 bt443.2.2.2.1 bt443.2.2.2.2.1 bt443.2.2.2.2.2.1 bt443.2.2.2.2.2.2).bind fun bt450 => ((life_Life_State.f bt450.2.1 bt450.2.2.1 bt450.2.2.2.1 bt450.2.2.2.2.1 bt450.2.2.2.2.2.1 bt450.2.2.2.2.2.2).bind fun bt457 => (if bt457.1 = 2 then (if bt450.1 > 301 then (millwrightlaw09_LifeOnce.j2 kj7 l2 t434 x9_1 x10_1 bt450.1 true true bt457.2.1 bt457.2.2.1 bt457.2.2.2.1 bt457.2.2.2.2.1 bt457.2.2.2.2.2.1 bt457.2.2.2.2.2.2) else (millwrightlaw09_LifeOnce.j2 kj7 l2 t434 x9_1 x10_1 bt450.1 true (decide (bt450.1 ≤ x9_1)) bt457.2.1 bt457.2.2.1 bt457.2.2.2.1 bt457.2.2.2.2.1 bt457.2.2.2.2.2.1 bt457.2.2.2.2.2.2)) else (if bt450.1 > 301 then (millwrightlaw09_LifeOnce.j4 kj7 l2 t434 bt450.1 x10_1 bt450.1 false true bt457.2.1 bt457.2.2.1 bt457.2.2.2.1 bt457.2.2.2.2.1 bt457.2.2.2.2.2.1 bt457.2.2.2.2.2.2) else (millwrightlaw09_LifeOnce.j4 kj7 l2 t434 bt450.1 x10_1 bt450.1 false false bt457.2.1 bt457.2.2.1 bt457.2.2.2.1 bt457.2.2.2.2.1 bt457.2.2.2.2.2.1 bt457.2.2.2.2.2.2)))))) else (none)) else (none)) = some true := by rw [if_pos rfl] at H; exact H
            clear H
            have H := H1
            clear H1
            by_cases c11 : 0 ≤ x10_1
            · rw [if_pos c11] at H
              have c11b0 : decide (0 ≤ x10_1) = true := decide_eq_true c11
              clear c11
              by_cases c12 : x10_1 < (l2.length : Int)
              · rw [if_pos c12] at H
                have c12b0 : decide (x10_1 < (l2.length : Int)) = true := decide_eq_true c12
                clear c12
                replace H := Option.bind_eq_some_iff.mp H
                obtain ⟨⟨t443, t444, t445, t446, t447, t448, t449⟩, A130, H⟩ := H
                replace H : ((life_Life_Epoch.f t444 t445 t446 t447 t448 t449).bind fun bt450 => ((life_Life_State.f bt450.2.1 bt450.2.2.1 bt450.2.2.2.1 bt450.2.2.2.2.1 bt450.2.2.2.2.2.1 bt450.2.2.2.2.2.2).bind fun bt457 => (if bt457.1 = 2 then (if bt450.1 > 301 then (millwrightlaw09_LifeOnce.j2 kj7 l2 t434 x9_1 x10_1 bt450.1 true true bt457.2.1 bt457.2.2.1 bt457.2.2.2.1 bt457.2.2.2.2.1 bt457.2.2.2.2.2.1 bt457.2.2.2.2.2.2) else (millwrightlaw09_LifeOnce.j2 kj7 l2 t434 x9_1 x10_1 bt450.1 true (decide (bt450.1 ≤ x9_1)) bt457.2.1 bt457.2.2.1 bt457.2.2.2.1 bt457.2.2.2.2.1 bt457.2.2.2.2.2.1 bt457.2.2.2.2.2.2)) else (if bt450.1 > 301 then (millwrightlaw09_LifeOnce.j4 kj7 l2 t434 bt450.1 x10_1 bt450.1 false true bt457.2.1 bt457.2.2.1 bt457.2.2.2.1 bt457.2.2.2.2.1 bt457.2.2.2.2.2.1 bt457.2.2.2.2.2.2) else (millwrightlaw09_LifeOnce.j4 kj7 l2 t434 bt450.1 x10_1 bt450.1 false false bt457.2.1 bt457.2.2.1 bt457.2.2.2.1 bt457.2.2.2.2.1 bt457.2.2.2.2.2.1 bt457.2.2.2.2.2.2))))) = some true := H
                have A13 := Aside0.mk A130
                clear A130
                replace H := Option.bind_eq_some_iff.mp H
                obtain ⟨⟨t450, t451, t452, t453, t454, t455, t456⟩, A140, H⟩ := H
                replace H : ((life_Life_State.f t451 t452 t453 t454 t455 t456).bind fun bt457 => (if bt457.1 = 2 then (if t450 > 301 then (millwrightlaw09_LifeOnce.j2 kj7 l2 t434 x9_1 x10_1 t450 true true bt457.2.1 bt457.2.2.1 bt457.2.2.2.1 bt457.2.2.2.2.1 bt457.2.2.2.2.2.1 bt457.2.2.2.2.2.2) else (millwrightlaw09_LifeOnce.j2 kj7 l2 t434 x9_1 x10_1 t450 true (decide (t450 ≤ x9_1)) bt457.2.1 bt457.2.2.1 bt457.2.2.2.1 bt457.2.2.2.2.1 bt457.2.2.2.2.2.1 bt457.2.2.2.2.2.2)) else (if t450 > 301 then (millwrightlaw09_LifeOnce.j4 kj7 l2 t434 t450 x10_1 t450 false true bt457.2.1 bt457.2.2.1 bt457.2.2.2.1 bt457.2.2.2.2.1 bt457.2.2.2.2.2.1 bt457.2.2.2.2.2.2) else (millwrightlaw09_LifeOnce.j4 kj7 l2 t434 t450 x10_1 t450 false false bt457.2.1 bt457.2.2.1 bt457.2.2.2.1 bt457.2.2.2.2.1 bt457.2.2.2.2.2.1 bt457.2.2.2.2.2.2)))) = some true := H
                have A14 := Aside0.mk A140
                clear A140
                replace H := Option.bind_eq_some_iff.mp H
                obtain ⟨⟨t457, t458, t459, t460, t461, t462, t463⟩, A150, H⟩ := H
                replace H : (if t457 = 2 then (if t450 > 301 then (millwrightlaw09_LifeOnce.j2 kj7 l2 t434 x9_1 x10_1 t450 true true t458 t459 t460 t461 t462 t463) else (millwrightlaw09_LifeOnce.j2 kj7 l2 t434 x9_1 x10_1 t450 true (decide (t450 ≤ x9_1)) t458 t459 t460 t461 t462 t463)) else (if t450 > 301 then (millwrightlaw09_LifeOnce.j4 kj7 l2 t434 t450 x10_1 t450 false true t458 t459 t460 t461 t462 t463) else (millwrightlaw09_LifeOnce.j4 kj7 l2 t434 t450 x10_1 t450 false false t458 t459 t460 t461 t462 t463))) = some true := H
                have A15 := Aside0.mk A150
                clear A150
                by_cases c16 : t457 = 2
                · rw [if_pos c16] at H
                  have c16b0 : (t457 == 2) = true := beq_iff_eq.mpr c16
                  have c16b1 : (t457 != 2) = false := bne_eq_false_iff_eq.mpr c16
                  clear c16
                  have HC17 := Aside0.mk H
                  clear H
                  have p442 : 0 ≤ (x10_1 : Int) := of_decide_eq_true (by first | (with_reducible assumption) | assumption)
                  have q442 : x10_1 < (l2.length : Int) := of_decide_eq_true (by first | (with_reducible assumption) | assumption)
                  obtain ⟨ad442, e442, hx442_0⟩ := Kd.at_int HR2.out x10_1 p442 q442
                  cases e442
                  replace hx442_0 := (HB.out.cell (World.block_lt_of_cell? w _ hx442_0)).trans hx442_0
                  replace p442 := eq_true p442
                  replace q442 := eq_true q442
                  go_upto_region 14 with (first | ((with_reducible refine gate_callee (f := 40) rfl ?_); refine goesL_ (some 37) rfl rfl Try.func40 (by kernel_rfl) rfl #[.pointer (some ⟨g441, 0, none⟩), .int .i64 (wrap64 (Int.tmod (rd l2 x10_1) 11))] rfl (by (try simp only [List.map_toArray, List.map_cons, List.map_nil]); first | done | rfl | (simp only [List.length_drop, List.length_take]; rfl)) ?_; (with_reducible refine (millwrightlaw09_does.calls kj7 g441 x442000_1 x442001_1 x442002_1 x442003_1 x442004_1 x442005_1 (wrap64 (Int.tmod (rd l2 x10_1) 11)) t443 t444 t445 t446 t447 t448 t449 w _ ?side1 ?side2 A13.out).mono ?_); (case side1 => repeat (first | (with_reducible first | exact HI441.out | apply IsS62.alloc | apply IsS62.drewN | apply IsS62.drew | apply IsS62.set_0 | apply IsS62.set_1 | apply IsS62.set_2 | apply IsS62.set_3 | apply IsS62.set_4 | apply IsS62.set_5) | exact HI441.out)); (case side2 => repeat (first | (with_reducible first | exact HB.out | apply below_alloc | apply pw_below_drewN | apply below_drew1 | refine below_set ?_ (IsS62.ge HI441.out)) | exact HB.out)); rintro e w18 ⟨rfl, hi, hb, hk⟩; refine ⟨_, rfl, ?_⟩; have n0_ := Aside0.mk (hb); have n1_ := Aside0.mk (hi); clear HB; clear HI441; have HB := n0_; have HI441 := n1_; clear n0_ n1_; (try clear hb); (try clear hb2); (try clear hk); (try clear hi)) | ((with_reducible refine gate_callee (f := 23) rfl ?_); refine goesL_ (some 39) rfl rfl Try.func23 (by kernel_rfl) rfl #[.pointer (some ⟨g441, 0, none⟩)] rfl (by (try simp only [List.map_toArray, List.map_cons, List.map_nil]); first | done | rfl | (simp only [List.length_drop, List.length_take]; rfl)) ?_; (with_reducible refine (life_Life_Epoch.calls g441 t444 t445 t446 t447 t448 t449 t450 t451 t452 t453 t454 t455 t456 w _ ?side1 ?side2 A14.out).mono ?_); (case side1 => repeat (first | (with_reducible first | exact HI441.out | apply IsS62.alloc | apply IsS62.drewN | apply IsS62.drew | apply IsS62.set_0 | apply IsS62.set_1 | apply IsS62.set_2 | apply IsS62.set_3 | apply IsS62.set_4 | apply IsS62.set_5) | exact HI441.out)); (case side2 => repeat (first | (with_reducible first | exact HB.out | apply below_alloc | apply pw_below_drewN | apply below_drew1 | refine below_set ?_ (IsS62.ge HI441.out)) | exact HB.out)); rintro e w19 ⟨rfl, hi, hb, hk⟩; refine ⟨_, rfl, ?_⟩; have n0_ := Aside0.mk (hb); have n1_ := Aside0.mk (hi); clear HB; clear HI441; have HB := n0_; have HI441 := n1_; clear n0_ n1_; (try clear hb); (try clear hb2); (try clear hk); (try clear hi)) | ((with_reducible refine gate_callee (f := 20) rfl ?_); refine goesL_ (some 41) rfl rfl Try.func20 (by kernel_rfl) rfl #[.pointer (some ⟨g441, 0, none⟩)] rfl (by (try simp only [List.map_toArray, List.map_cons, List.map_nil]); first | done | rfl | (simp only [List.length_drop, List.length_take]; rfl)) ?_; (with_reducible refine (life_Life_State.calls g441 t451 t452 t453 t454 t455 t456 t457 t458 t459 t460 t461 t462 t463 w _ ?side1 ?side2 A15.out).mono ?_); (case side1 => repeat (first | (with_reducible first | exact HI441.out | apply IsS62.alloc | apply IsS62.drewN | apply IsS62.drew | apply IsS62.set_0 | apply IsS62.set_1 | apply IsS62.set_2 | apply IsS62.set_3 | apply IsS62.set_4 | apply IsS62.set_5) | exact HI441.out)); (case side2 => repeat (first | (with_reducible first | exact HB.out | apply below_alloc | apply pw_below_drewN | apply below_drew1 | refine below_set ?_ (IsS62.ge HI441.out)) | exact HB.out)); rintro e w20 ⟨rfl, hi, hb, hk⟩; refine ⟨_, rfl, ?_⟩; have n0_ := Aside0.mk (hb); have n1_ := Aside0.mk (hi); clear HB; clear HI441; have HB := n0_; have HI441 := n1_; clear n0_ n1_; (try clear hb); (try clear hb2); (try clear hk); (try clear hi)))
                  (try simp only [Act.put, List.setIfInBounds_toArray, List.set_cons_zero, List.set_cons_succ])
                  go_cut [55] (fun v55 wc => ∃ (kq : Nat) (x55_16 : Bool), v55 = .bool x55_16 ∧ Aside0 (millwrightlaw09_LifeOnce.j2 kq l2 t434 x9_1 x10_1 t450 true x55_16 t458 t459 t460 t461 t462 t463 = some true) ∧ Aside0 (kq ≤ kj7) ∧ Aside0 (IsS62 w wc g441 t458 t459 t460 t461 t462 t463) ∧ Aside0 (Below w.heap.size w wc))
                  case first =>
                    have H := HC17.out
                    clear HC17
                    by_cases c21 : t450 > 301
                    · rw [if_pos c21] at H
                      have c21b0 : decide (301 < t450) = true := decide_eq_true c21
                      clear c21
                      (first | rw [c21b0] | (simp only [i64_w, i32_w]; rw [c21b0]) | skip)
                      have H' := Aside0.mk H
                      clear H
                      go_wp2
                      first | go_meet | (refine Met.intro ?_; go_step; (try rw [c11b0]); (try rw [c12b0]); (try rw [c16b0]); (try rw [c21b0]); (repeat apply Exists.intro); refine ⟨?rel, rfl⟩)
                      case rel => exact ⟨_, (true), (by first | rfl | (simp; done) | (simp [*]; done)), H', ⟨by have := HK1.out; have := HJ7.out; first | omega | exact Nat.le_refl _⟩, ⟨by repeat (first | (with_reducible first | exact HI441.out | apply IsS62.alloc | apply IsS62.drewN | apply IsS62.drew | apply IsS62.set_0 | apply IsS62.set_1 | apply IsS62.set_2 | apply IsS62.set_3 | apply IsS62.set_4 | apply IsS62.set_5) | exact HI441.out)⟩, ⟨by repeat (first | (with_reducible first | exact HB.out | apply below_alloc | apply pw_below_drewN | apply below_drew1 | refine below_set ?_ (IsS62.ge HI441.out)) | exact HB.out)⟩⟩
                    · rw [if_neg c21] at H
                      have c21b0 : decide (301 < t450) = false := decide_eq_false c21
                      clear c21
                      (first | rw [c21b0] | (simp only [i64_w, i32_w]; rw [c21b0]) | skip)
                      have H' := Aside0.mk H
                      clear H
                      go_wp2
                      first | go_meet | (refine Met.intro ?_; go_step; (try rw [c11b0]); (try rw [c12b0]); (try rw [c16b0]); (try rw [c21b0]); (repeat apply Exists.intro); refine ⟨?rel, rfl⟩)
                      case rel => exact ⟨_, (decide (t450 ≤ x9_1)), (by first | rfl | (simp; done) | (simp [*]; done)), H', ⟨by have := HK1.out; have := HJ7.out; first | omega | exact Nat.le_refl _⟩, ⟨by repeat (first | (with_reducible first | exact HI441.out | apply IsS62.alloc | apply IsS62.drewN | apply IsS62.drew | apply IsS62.set_0 | apply IsS62.set_1 | apply IsS62.set_2 | apply IsS62.set_3 | apply IsS62.set_4 | apply IsS62.set_5) | exact HI441.out)⟩, ⟨by repeat (first | (with_reducible first | exact HB.out | apply below_alloc | apply pw_below_drewN | apply below_drew1 | refine below_set ?_ (IsS62.ge HI441.out)) | exact HB.out)⟩⟩
                  case rest =>
                    clear HC17
                    try clear c1
                    try clear c2
                    try clear p2
                    try clear c4
                    try clear p4
                    try clear q4
                    try clear hx4
                    try clear p6
                    try clear c9
                    try clear c9b0
                    try clear c10
                    try clear c11
                    try clear c11b0
                    try clear c12
                    try clear c12b0
                    try clear c13
                    try clear c15
                    try clear c16
                    try clear c16b0
                    try clear c16b1
                    try clear c20
                    try clear c21
                    try clear c21b0
                    try clear hx442_0
                    try clear p2
                    try clear p442
                    try clear q442
                    obtain ⟨kq, x55_16, rfl, HA, HJ16, HI441, HB⟩ := hcut
                    cases kq with
                    | zero => exact absurd HA.out (by simp [millwrightlaw09_LifeOnce.j2])
                    | succ kj16 =>
                      have H := HA.out
                      clear HA
                      simp only [millwrightlaw09_LifeOnce.j2] at H
                      by_cases c22 : x55_16 = true
                      · subst c22
                        have H1 : (some false) = some true := by rw [if_pos rfl] at H; exact H
                        clear H
                        have H := H1
                        clear H1
                        exact absurd H (by simp)
                      · replace c22 := Bool.eq_false_iff.mpr c22
                        subst c22
                        have H1 : (millwrightlaw09_LifeOnce.l1 kj16 l2 t434 x9_1 x10_1 t450 true (-1) t458 t459 t460 t461 t462 t463) = some true := by rw [if_neg (show ¬ (false = true) by decide)] at H; exact H
                        clear H
                        have H := H1
                        clear H1
                        have H' := Aside0.mk H
                        clear H
                        go_wp2
                        go_loopg [13] kj16 (fun kq v13 w' => ∃ (x13_4 : Int) (x442000_4 : Int) (x442001_4 : Int) (x442002_4 : Int) (x442003_4 : Int) (x442004_4 : Int) (x442005_4 : Int), v13 = .int .i64 x13_4 ∧ Aside0 (millwrightlaw09_LifeOnce.l1 kq l2 t434 x9_1 x10_1 t450 true x13_4 x442000_4 x442001_4 x442002_4 x442003_4 x442004_4 x442005_4 = some true) ∧ Aside0 (kq ≤ kj16) ∧ Aside0 (IsS62 w w' g441 x442000_4 x442001_4 x442002_4 x442003_4 x442004_4 x442005_4) ∧ Aside0 (Below w.heap.size w w'))
                        case atStart => exact ⟨((-1)), (t458), (t459), (t460), (t461), (t462), (t463), (by first | rfl | (simp; done) | (simp [*]; done)), H', ⟨Nat.le_refl _⟩, ⟨by repeat (first | (with_reducible first | exact HI441.out | apply IsS62.alloc | apply IsS62.drewN | apply IsS62.drew | apply IsS62.set_0 | apply IsS62.set_1 | apply IsS62.set_2 | apply IsS62.set_3 | apply IsS62.set_4 | apply IsS62.set_5) | exact HI441.out)⟩, ⟨by repeat (first | (with_reducible first | exact HB.out | apply below_alloc | apply pw_below_drewN | apply below_drew1 | refine below_set ?_ (IsS62.ge HI441.out)) | exact HB.out)⟩⟩
                        case round =>
                          clear H'
                          try clear c1
                          try clear c2
                          try clear p2
                          try clear c4
                          try clear p4
                          try clear q4
                          try clear hx4
                          try clear p6
                          try clear c9
                          try clear c9b0
                          try clear c10
                          try clear c11
                          try clear c11b0
                          try clear c12
                          try clear c12b0
                          try clear c13
                          try clear c15
                          try clear c16
                          try clear c16b0
                          try clear c16b1
                          try clear c20
                          try clear c21
                          try clear c21b0
                          try clear c22
                          try clear hx442_0
                          try clear p2
                          try clear p4
                          try clear p442
                          try clear p6
                          try clear q4
                          try clear q442
                          obtain ⟨x13_4, x442000_4, x442001_4, x442002_4, x442003_4, x442004_4, x442005_4, rfl, HA, HK4, HI441, HB⟩ := hrel
                          cases gk with
                          | zero => exact absurd HA.out (by simp [millwrightlaw09_LifeOnce.l1])
                          | succ k4 =>
                            have H := HA.out
                            clear HA
                            simp only [millwrightlaw09_LifeOnce.l1] at H
                            by_cases c23 : x13_4 ≤ (wrap64 (t450 + 1))
                            · rw [if_pos c23] at H
                              have c23b0 : decide (x13_4 ≤ (wrap64 (t450 + 1))) = true := decide_eq_true c23
                              clear c23
                              replace H := Option.bind_eq_some_iff.mp H
                              obtain ⟨⟨t464, t465, t466, t467, t468, t469, t470⟩, A240, H⟩ := H
                              replace H : (if true = true then (if t464 = 0 then (if x13_4 = t450 then (millwrightlaw09_LifeOnce.l1 k4 l2 t434 x9_1 x10_1 t450 true (wrap64 (x13_4 + 1)) t465 t466 t467 t468 t469 t470) else (some false)) else (if x13_4 = t450 then (some false) else (millwrightlaw09_LifeOnce.l1 k4 l2 t434 x9_1 x10_1 t450 true (wrap64 (x13_4 + 1)) t465 t466 t467 t468 t469 t470))) else (if t464 = 0 then (some false) else (millwrightlaw09_LifeOnce.l1 k4 l2 t434 x9_1 x10_1 t450 true (wrap64 (x13_4 + 1)) t465 t466 t467 t468 t469 t470))) = some true := H
                              have A24 := Aside0.mk A240
                              clear A240
                              have H1 : (if t464 = 0 then (if x13_4 = t450 then (millwrightlaw09_LifeOnce.l1 k4 l2 t434 x9_1 x10_1 t450 true (wrap64 (x13_4 + 1)) t465 t466 t467 t468 t469 t470) else (some false)) else (if x13_4 = t450 then (some false) else (millwrightlaw09_LifeOnce.l1 k4 l2 t434 x9_1 x10_1 t450 true (wrap64 (x13_4 + 1)) t465 t466 t467 t468 t469 t470))) = some true := by rw [if_pos rfl] at H; exact H
                              clear H
                              have H := H1
                              clear H1
                              by_cases c25 : t464 = 0
                              · rw [if_pos c25] at H
                                have c25b0 : (t464 == 0) = true := beq_iff_eq.mpr c25
                                have c25b1 : (t464 != 0) = false := bne_eq_false_iff_eq.mpr c25
                                clear c25
                                by_cases c26 : x13_4 = t450
                                · rw [if_pos c26] at H
                                  have c26b0 : (x13_4 == t450) = true := beq_iff_eq.mpr c26
                                  have c26b1 : (x13_4 != t450) = false := bne_eq_false_iff_eq.mpr c26
                                  clear c26
                                  have H' := Aside0.mk H
                                  clear H
                                  go_wp2_with (first | ((with_reducible refine gate_callee (f := 43) rfl ?_); refine goesL_ (some 64) rfl rfl Try.func43 (by kernel_rfl) rfl #[.pointer (some ⟨g441, 0, none⟩), .int .i64 x13_4] rfl (by (try simp only [List.map_toArray, List.map_cons, List.map_nil]); first | done | rfl | (simp only [List.length_drop, List.length_take]; rfl)) ?_; (with_reducible refine (life_Life_Right.calls g441 x442000_4 x442001_4 x442002_4 x442003_4 x442004_4 x442005_4 x13_4 t464 t465 t466 t467 t468 t469 t470 w _ ?side1 ?side2 A24.out).mono ?_); (case side1 => repeat (first | (with_reducible first | exact HI441.out | apply IsS62.alloc | apply IsS62.drewN | apply IsS62.drew | apply IsS62.set_0 | apply IsS62.set_1 | apply IsS62.set_2 | apply IsS62.set_3 | apply IsS62.set_4 | apply IsS62.set_5) | exact HI441.out)); (case side2 => repeat (first | (with_reducible first | exact HB.out | apply below_alloc | apply pw_below_drewN | apply below_drew1 | refine below_set ?_ (IsS62.ge HI441.out)) | exact HB.out)); rintro e w27 ⟨rfl, hi, hb, hk⟩; refine ⟨_, rfl, ?_⟩; have n0_ := Aside0.mk (hb); have n1_ := Aside0.mk (hi); clear HB; clear HI441; have HB := n0_; have HI441 := n1_; clear n0_ n1_; (try clear hb); (try clear hb2); (try clear hk); (try clear hi)))
                                  go_roundg k4
                                  case measure => have := HK1.out; have := HJ7.out; have := HJ16.out; have := HK4.out; omega
                                  case rel => exact ⟨(wrap64 (x13_4 + 1)), (t465), (t466), (t467), (t468), (t469), (t470), (by first | rfl | (simp; done) | (simp [*]; done)), H', ⟨by have := HK1.out; have := HJ7.out; have := HJ16.out; have := HK4.out; omega⟩, ⟨by repeat (first | (with_reducible first | exact HI441.out | apply IsS62.alloc | apply IsS62.drewN | apply IsS62.drew | apply IsS62.set_0 | apply IsS62.set_1 | apply IsS62.set_2 | apply IsS62.set_3 | apply IsS62.set_4 | apply IsS62.set_5) | exact HI441.out)⟩, ⟨by repeat (first | (with_reducible first | exact HB.out | apply below_alloc | apply pw_below_drewN | apply below_drew1 | refine below_set ?_ (IsS62.ge HI441.out)) | exact HB.out)⟩⟩
                                · rw [if_neg c26] at H
                                  have c26b0 : (x13_4 == t450) = false := beq_eq_false_iff_ne.mpr c26
                                  have c26b1 : (x13_4 != t450) = true := bne_iff_ne.mpr c26
                                  exact absurd H (by simp)
                              · rw [if_neg c25] at H
                                have c25b0 : (t464 == 0) = false := beq_eq_false_iff_ne.mpr c25
                                have c25b1 : (t464 != 0) = true := bne_iff_ne.mpr c25
                                by_cases c28 : x13_4 = t450
                                · rw [if_pos c28] at H
                                  have c28b0 : (x13_4 == t450) = true := beq_iff_eq.mpr c28
                                  have c28b1 : (x13_4 != t450) = false := bne_eq_false_iff_eq.mpr c28
                                  clear c28
                                  exact absurd H (by simp)
                                · rw [if_neg c28] at H
                                  have c28b0 : (x13_4 == t450) = false := beq_eq_false_iff_ne.mpr c28
                                  have c28b1 : (x13_4 != t450) = true := bne_iff_ne.mpr c28
                                  have H' := Aside0.mk H
                                  clear H
                                  go_wp2_with (first | ((with_reducible refine gate_callee (f := 43) rfl ?_); refine goesL_ (some 64) rfl rfl Try.func43 (by kernel_rfl) rfl #[.pointer (some ⟨g441, 0, none⟩), .int .i64 x13_4] rfl (by (try simp only [List.map_toArray, List.map_cons, List.map_nil]); first | done | rfl | (simp only [List.length_drop, List.length_take]; rfl)) ?_; (with_reducible refine (life_Life_Right.calls g441 x442000_4 x442001_4 x442002_4 x442003_4 x442004_4 x442005_4 x13_4 t464 t465 t466 t467 t468 t469 t470 w _ ?side1 ?side2 A24.out).mono ?_); (case side1 => repeat (first | (with_reducible first | exact HI441.out | apply IsS62.alloc | apply IsS62.drewN | apply IsS62.drew | apply IsS62.set_0 | apply IsS62.set_1 | apply IsS62.set_2 | apply IsS62.set_3 | apply IsS62.set_4 | apply IsS62.set_5) | exact HI441.out)); (case side2 => repeat (first | (with_reducible first | exact HB.out | apply below_alloc | apply pw_below_drewN | apply below_drew1 | refine below_set ?_ (IsS62.ge HI441.out)) | exact HB.out)); rintro e w29 ⟨rfl, hi, hb, hk⟩; refine ⟨_, rfl, ?_⟩; have n0_ := Aside0.mk (hb); have n1_ := Aside0.mk (hi); clear HB; clear HI441; have HB := n0_; have HI441 := n1_; clear n0_ n1_; (try clear hb); (try clear hb2); (try clear hk); (try clear hi)))
                                  go_roundg k4
                                  case measure => have := HK1.out; have := HJ7.out; have := HJ16.out; have := HK4.out; omega
                                  case rel => exact ⟨(wrap64 (x13_4 + 1)), (t465), (t466), (t467), (t468), (t469), (t470), (by first | rfl | (simp; done) | (simp [*]; done)), H', ⟨by have := HK1.out; have := HJ7.out; have := HJ16.out; have := HK4.out; omega⟩, ⟨by repeat (first | (with_reducible first | exact HI441.out | apply IsS62.alloc | apply IsS62.drewN | apply IsS62.drew | apply IsS62.set_0 | apply IsS62.set_1 | apply IsS62.set_2 | apply IsS62.set_3 | apply IsS62.set_4 | apply IsS62.set_5) | exact HI441.out)⟩, ⟨by repeat (first | (with_reducible first | exact HB.out | apply below_alloc | apply pw_below_drewN | apply below_drew1 | refine below_set ?_ (IsS62.ge HI441.out)) | exact HB.out)⟩⟩
                            · rw [if_neg c23] at H
                              have c23b0 : decide (x13_4 ≤ (wrap64 (t450 + 1))) = false := decide_eq_false c23
                              clear c23
                              have H' := Aside0.mk H
                              clear H
                              go_wp2
                              go_roundg k4
                              case measure => have := HK1.out; have := HJ7.out; have := HJ16.out; have := HK4.out; omega
                              case rel => exact ⟨(x9_1), (wrap64 (x10_1 + 1)), (x442000_4), (x442001_4), (x442002_4), (x442003_4), (x442004_4), (x442005_4), (by first | rfl | (simp; done) | (simp [*]; done)), (by first | rfl | (simp; done) | (simp [*]; done)), H', ⟨by have := HK1.out; have := HJ7.out; have := HJ16.out; have := HK4.out; omega⟩, ⟨by repeat (first | (with_reducible first | exact HI441.out | apply IsS62.alloc | apply IsS62.drewN | apply IsS62.drew | apply IsS62.set_0 | apply IsS62.set_1 | apply IsS62.set_2 | apply IsS62.set_3 | apply IsS62.set_4 | apply IsS62.set_5) | exact HI441.out)⟩, ⟨by repeat (first | (with_reducible first | exact HB.out | apply below_alloc | apply pw_below_drewN | apply below_drew1 | refine below_set ?_ (IsS62.ge HI441.out)) | exact HB.out)⟩⟩
                · rw [if_neg c16] at H
                  have c16b0 : (t457 == 2) = false := beq_eq_false_iff_ne.mpr c16
                  have c16b1 : (t457 != 2) = true := bne_iff_ne.mpr c16
                  have HC30 := Aside0.mk H
                  clear H
                  have p442 : 0 ≤ (x10_1 : Int) := of_decide_eq_true (by first | (with_reducible assumption) | assumption)
                  have q442 : x10_1 < (l2.length : Int) := of_decide_eq_true (by first | (with_reducible assumption) | assumption)
                  obtain ⟨ad442, e442, hx442_0⟩ := Kd.at_int HR2.out x10_1 p442 q442
                  cases e442
                  replace hx442_0 := (HB.out.cell (World.block_lt_of_cell? w _ hx442_0)).trans hx442_0
                  replace p442 := eq_true p442
                  replace q442 := eq_true q442
                  go_upto_region 14 with (first | ((with_reducible refine gate_callee (f := 40) rfl ?_); refine goesL_ (some 37) rfl rfl Try.func40 (by kernel_rfl) rfl #[.pointer (some ⟨g441, 0, none⟩), .int .i64 (wrap64 (Int.tmod (rd l2 x10_1) 11))] rfl (by (try simp only [List.map_toArray, List.map_cons, List.map_nil]); first | done | rfl | (simp only [List.length_drop, List.length_take]; rfl)) ?_; (with_reducible refine (millwrightlaw09_does.calls kj7 g441 x442000_1 x442001_1 x442002_1 x442003_1 x442004_1 x442005_1 (wrap64 (Int.tmod (rd l2 x10_1) 11)) t443 t444 t445 t446 t447 t448 t449 w _ ?side1 ?side2 A13.out).mono ?_); (case side1 => repeat (first | (with_reducible first | exact HI441.out | apply IsS62.alloc | apply IsS62.drewN | apply IsS62.drew | apply IsS62.set_0 | apply IsS62.set_1 | apply IsS62.set_2 | apply IsS62.set_3 | apply IsS62.set_4 | apply IsS62.set_5) | exact HI441.out)); (case side2 => repeat (first | (with_reducible first | exact HB.out | apply below_alloc | apply pw_below_drewN | apply below_drew1 | refine below_set ?_ (IsS62.ge HI441.out)) | exact HB.out)); rintro e w31 ⟨rfl, hi, hb, hk⟩; refine ⟨_, rfl, ?_⟩; have n0_ := Aside0.mk (hb); have n1_ := Aside0.mk (hi); clear HB; clear HI441; have HB := n0_; have HI441 := n1_; clear n0_ n1_; (try clear hb); (try clear hb2); (try clear hk); (try clear hi)) | ((with_reducible refine gate_callee (f := 23) rfl ?_); refine goesL_ (some 39) rfl rfl Try.func23 (by kernel_rfl) rfl #[.pointer (some ⟨g441, 0, none⟩)] rfl (by (try simp only [List.map_toArray, List.map_cons, List.map_nil]); first | done | rfl | (simp only [List.length_drop, List.length_take]; rfl)) ?_; (with_reducible refine (life_Life_Epoch.calls g441 t444 t445 t446 t447 t448 t449 t450 t451 t452 t453 t454 t455 t456 w _ ?side1 ?side2 A14.out).mono ?_); (case side1 => repeat (first | (with_reducible first | exact HI441.out | apply IsS62.alloc | apply IsS62.drewN | apply IsS62.drew | apply IsS62.set_0 | apply IsS62.set_1 | apply IsS62.set_2 | apply IsS62.set_3 | apply IsS62.set_4 | apply IsS62.set_5) | exact HI441.out)); (case side2 => repeat (first | (with_reducible first | exact HB.out | apply below_alloc | apply pw_below_drewN | apply below_drew1 | refine below_set ?_ (IsS62.ge HI441.out)) | exact HB.out)); rintro e w32 ⟨rfl, hi, hb, hk⟩; refine ⟨_, rfl, ?_⟩; have n0_ := Aside0.mk (hb); have n1_ := Aside0.mk (hi); clear HB; clear HI441; have HB := n0_; have HI441 := n1_; clear n0_ n1_; (try clear hb); (try clear hb2); (try clear hk); (try clear hi)) | ((with_reducible refine gate_callee (f := 20) rfl ?_); refine goesL_ (some 41) rfl rfl Try.func20 (by kernel_rfl) rfl #[.pointer (some ⟨g441, 0, none⟩)] rfl (by (try simp only [List.map_toArray, List.map_cons, List.map_nil]); first | done | rfl | (simp only [List.length_drop, List.length_take]; rfl)) ?_; (with_reducible refine (life_Life_State.calls g441 t451 t452 t453 t454 t455 t456 t457 t458 t459 t460 t461 t462 t463 w _ ?side1 ?side2 A15.out).mono ?_); (case side1 => repeat (first | (with_reducible first | exact HI441.out | apply IsS62.alloc | apply IsS62.drewN | apply IsS62.drew | apply IsS62.set_0 | apply IsS62.set_1 | apply IsS62.set_2 | apply IsS62.set_3 | apply IsS62.set_4 | apply IsS62.set_5) | exact HI441.out)); (case side2 => repeat (first | (with_reducible first | exact HB.out | apply below_alloc | apply pw_below_drewN | apply below_drew1 | refine below_set ?_ (IsS62.ge HI441.out)) | exact HB.out)); rintro e w33 ⟨rfl, hi, hb, hk⟩; refine ⟨_, rfl, ?_⟩; have n0_ := Aside0.mk (hb); have n1_ := Aside0.mk (hi); clear HB; clear HI441; have HB := n0_; have HI441 := n1_; clear n0_ n1_; (try clear hb); (try clear hb2); (try clear hk); (try clear hi)))
                  (try simp only [Act.put, List.setIfInBounds_toArray, List.set_cons_zero, List.set_cons_succ])
                  go_cut [55] (fun v55 wc => ∃ (kq : Nat) (x55_29 : Bool), v55 = .bool x55_29 ∧ Aside0 (millwrightlaw09_LifeOnce.j4 kq l2 t434 t450 x10_1 t450 false x55_29 t458 t459 t460 t461 t462 t463 = some true) ∧ Aside0 (kq ≤ kj7) ∧ Aside0 (IsS62 w wc g441 t458 t459 t460 t461 t462 t463) ∧ Aside0 (Below w.heap.size w wc))
                  case first =>
                    have H := HC30.out
                    clear HC30
                    by_cases c34 : t450 > 301
                    · rw [if_pos c34] at H
                      have c34b0 : decide (301 < t450) = true := decide_eq_true c34
                      clear c34
                      (first | rw [c34b0] | (simp only [i64_w, i32_w]; rw [c34b0]) | skip)
                      have H' := Aside0.mk H
                      clear H
                      go_wp2
                      first | go_meet | (refine Met.intro ?_; go_step; (try rw [c11b0]); (try rw [c12b0]); (try rw [c16b0]); (try rw [c34b0]); (repeat apply Exists.intro); refine ⟨?rel, rfl⟩)
                      case rel => exact ⟨_, (true), (by first | rfl | (simp; done) | (simp [*]; done)), H', ⟨by have := HK1.out; have := HJ7.out; first | omega | exact Nat.le_refl _⟩, ⟨by repeat (first | (with_reducible first | exact HI441.out | apply IsS62.alloc | apply IsS62.drewN | apply IsS62.drew | apply IsS62.set_0 | apply IsS62.set_1 | apply IsS62.set_2 | apply IsS62.set_3 | apply IsS62.set_4 | apply IsS62.set_5) | exact HI441.out)⟩, ⟨by repeat (first | (with_reducible first | exact HB.out | apply below_alloc | apply pw_below_drewN | apply below_drew1 | refine below_set ?_ (IsS62.ge HI441.out)) | exact HB.out)⟩⟩
                    · rw [if_neg c34] at H
                      have c34b0 : decide (301 < t450) = false := decide_eq_false c34
                      clear c34
                      (first | rw [c34b0] | (simp only [i64_w, i32_w]; rw [c34b0]) | skip)
                      have H' := Aside0.mk H
                      clear H
                      go_wp2
                      first | go_meet | (refine Met.intro ?_; go_step; (try rw [c11b0]); (try rw [c12b0]); (try rw [c16b0]); (try rw [c34b0]); (repeat apply Exists.intro); refine ⟨?rel, rfl⟩)
                      case rel => exact ⟨_, (false), (by first | rfl | (simp; done) | (simp [*]; done)), H', ⟨by have := HK1.out; have := HJ7.out; first | omega | exact Nat.le_refl _⟩, ⟨by repeat (first | (with_reducible first | exact HI441.out | apply IsS62.alloc | apply IsS62.drewN | apply IsS62.drew | apply IsS62.set_0 | apply IsS62.set_1 | apply IsS62.set_2 | apply IsS62.set_3 | apply IsS62.set_4 | apply IsS62.set_5) | exact HI441.out)⟩, ⟨by repeat (first | (with_reducible first | exact HB.out | apply below_alloc | apply pw_below_drewN | apply below_drew1 | refine below_set ?_ (IsS62.ge HI441.out)) | exact HB.out)⟩⟩
                  case rest =>
                    clear HC30
                    try clear c1
                    try clear c2
                    try clear p2
                    try clear c3
                    try clear c4
                    try clear p4
                    try clear q4
                    try clear hx4
                    try clear p6
                    try clear c9
                    try clear c9b0
                    try clear c10
                    try clear c11
                    try clear c11b0
                    try clear c12
                    try clear c12b0
                    try clear c13
                    try clear c15
                    try clear c16
                    try clear c16b0
                    try clear c16b1
                    try clear c20
                    try clear c21
                    try clear c21b0
                    try clear c22
                    try clear c23
                    try clear c23b0
                    try clear c25
                    try clear c25b0
                    try clear c25b1
                    try clear c26
                    try clear c26b0
                    try clear c26b1
                    try clear c28
                    try clear c28b0
                    try clear c28b1
                    try clear c34
                    try clear c34b0
                    try clear hx442_0
                    try clear p2
                    try clear p4
                    try clear p442
                    try clear p6
                    try clear q4
                    try clear q442
                    obtain ⟨kq, x55_29, rfl, HA, HJ29, HI441, HB⟩ := hcut
                    cases kq with
                    | zero => exact absurd HA.out (by simp [millwrightlaw09_LifeOnce.j4])
                    | succ kj29 =>
                      have H := HA.out
                      clear HA
                      simp only [millwrightlaw09_LifeOnce.j4] at H
                      by_cases c35 : x55_29 = true
                      · subst c35
                        have H1 : (some false) = some true := by rw [if_pos rfl] at H; exact H
                        clear H
                        have H := H1
                        clear H1
                        exact absurd H (by simp)
                      · replace c35 := Bool.eq_false_iff.mpr c35
                        subst c35
                        have H1 : (millwrightlaw09_LifeOnce.l1 kj29 l2 t434 t450 x10_1 t450 false (-1) t458 t459 t460 t461 t462 t463) = some true := by rw [if_neg (show ¬ (false = true) by decide)] at H; exact H
                        clear H
                        have H := H1
                        clear H1
                        have H' := Aside0.mk H
                        clear H
                        go_wp2
                        go_loopg [13] kj29 (fun kq v13 w' => ∃ (x13_4 : Int) (x442000_4 : Int) (x442001_4 : Int) (x442002_4 : Int) (x442003_4 : Int) (x442004_4 : Int) (x442005_4 : Int), v13 = .int .i64 x13_4 ∧ Aside0 (millwrightlaw09_LifeOnce.l1 kq l2 t434 t450 x10_1 t450 false x13_4 x442000_4 x442001_4 x442002_4 x442003_4 x442004_4 x442005_4 = some true) ∧ Aside0 (kq ≤ kj29) ∧ Aside0 (IsS62 w w' g441 x442000_4 x442001_4 x442002_4 x442003_4 x442004_4 x442005_4) ∧ Aside0 (Below w.heap.size w w'))
                        case atStart => exact ⟨((-1)), (t458), (t459), (t460), (t461), (t462), (t463), (by first | rfl | (simp; done) | (simp [*]; done)), H', ⟨Nat.le_refl _⟩, ⟨by repeat (first | (with_reducible first | exact HI441.out | apply IsS62.alloc | apply IsS62.drewN | apply IsS62.drew | apply IsS62.set_0 | apply IsS62.set_1 | apply IsS62.set_2 | apply IsS62.set_3 | apply IsS62.set_4 | apply IsS62.set_5) | exact HI441.out)⟩, ⟨by repeat (first | (with_reducible first | exact HB.out | apply below_alloc | apply pw_below_drewN | apply below_drew1 | refine below_set ?_ (IsS62.ge HI441.out)) | exact HB.out)⟩⟩
                        case round =>
                          clear H'
                          try clear c1
                          try clear c2
                          try clear p2
                          try clear c3
                          try clear c4
                          try clear p4
                          try clear q4
                          try clear hx4
                          try clear p6
                          try clear c9
                          try clear c9b0
                          try clear c10
                          try clear c11
                          try clear c11b0
                          try clear c12
                          try clear c12b0
                          try clear c13
                          try clear c15
                          try clear c16
                          try clear c16b0
                          try clear c16b1
                          try clear c20
                          try clear c21
                          try clear c21b0
                          try clear c22
                          try clear c23
                          try clear c23b0
                          try clear c25
                          try clear c25b0
                          try clear c25b1
                          try clear c26
                          try clear c26b0
                          try clear c26b1
                          try clear c28
                          try clear c28b0
                          try clear c28b1
                          try clear c34
                          try clear c34b0
                          try clear c35
                          try clear hx442_0
                          try clear p2
                          try clear p4
                          try clear p442
                          try clear p6
                          try clear q4
                          try clear q442
                          obtain ⟨x13_4, x442000_4, x442001_4, x442002_4, x442003_4, x442004_4, x442005_4, rfl, HA, HK4, HI441, HB⟩ := hrel
                          cases gk with
                          | zero => exact absurd HA.out (by simp [millwrightlaw09_LifeOnce.l1])
                          | succ k4 =>
                            have H := HA.out
                            clear HA
                            simp only [millwrightlaw09_LifeOnce.l1] at H
                            by_cases c36 : x13_4 ≤ (wrap64 (t450 + 1))
                            · rw [if_pos c36] at H
                              have c36b0 : decide (x13_4 ≤ (wrap64 (t450 + 1))) = true := decide_eq_true c36
                              clear c36
                              replace H := Option.bind_eq_some_iff.mp H
                              obtain ⟨⟨t464, t465, t466, t467, t468, t469, t470⟩, A370, H⟩ := H
                              replace H : (if false = true then (if t464 = 0 then (if x13_4 = t450 then (millwrightlaw09_LifeOnce.l1 k4 l2 t434 t450 x10_1 t450 false (wrap64 (x13_4 + 1)) t465 t466 t467 t468 t469 t470) else (some false)) else (if x13_4 = t450 then (some false) else (millwrightlaw09_LifeOnce.l1 k4 l2 t434 t450 x10_1 t450 false (wrap64 (x13_4 + 1)) t465 t466 t467 t468 t469 t470))) else (if t464 = 0 then (some false) else (millwrightlaw09_LifeOnce.l1 k4 l2 t434 t450 x10_1 t450 false (wrap64 (x13_4 + 1)) t465 t466 t467 t468 t469 t470))) = some true := H
                              have A37 := Aside0.mk A370
                              clear A370
                              have H1 : (if t464 = 0 then (some false) else (millwrightlaw09_LifeOnce.l1 k4 l2 t434 t450 x10_1 t450 false (wrap64 (x13_4 + 1)) t465 t466 t467 t468 t469 t470)) = some true := by rw [if_neg (show ¬ (false = true) by decide)] at H; exact H
                              clear H
                              have H := H1
                              clear H1
                              by_cases c38 : t464 = 0
                              · rw [if_pos c38] at H
                                have c38b0 : (t464 == 0) = true := beq_iff_eq.mpr c38
                                have c38b1 : (t464 != 0) = false := bne_eq_false_iff_eq.mpr c38
                                clear c38
                                exact absurd H (by simp)
                              · rw [if_neg c38] at H
                                have c38b0 : (t464 == 0) = false := beq_eq_false_iff_ne.mpr c38
                                have c38b1 : (t464 != 0) = true := bne_iff_ne.mpr c38
                                have H' := Aside0.mk H
                                clear H
                                go_wp2_with (first | ((with_reducible refine gate_callee (f := 43) rfl ?_); refine goesL_ (some 64) rfl rfl Try.func43 (by kernel_rfl) rfl #[.pointer (some ⟨g441, 0, none⟩), .int .i64 x13_4] rfl (by (try simp only [List.map_toArray, List.map_cons, List.map_nil]); first | done | rfl | (simp only [List.length_drop, List.length_take]; rfl)) ?_; (with_reducible refine (life_Life_Right.calls g441 x442000_4 x442001_4 x442002_4 x442003_4 x442004_4 x442005_4 x13_4 t464 t465 t466 t467 t468 t469 t470 w _ ?side1 ?side2 A37.out).mono ?_); (case side1 => repeat (first | (with_reducible first | exact HI441.out | apply IsS62.alloc | apply IsS62.drewN | apply IsS62.drew | apply IsS62.set_0 | apply IsS62.set_1 | apply IsS62.set_2 | apply IsS62.set_3 | apply IsS62.set_4 | apply IsS62.set_5) | exact HI441.out)); (case side2 => repeat (first | (with_reducible first | exact HB.out | apply below_alloc | apply pw_below_drewN | apply below_drew1 | refine below_set ?_ (IsS62.ge HI441.out)) | exact HB.out)); rintro e w39 ⟨rfl, hi, hb, hk⟩; refine ⟨_, rfl, ?_⟩; have n0_ := Aside0.mk (hb); have n1_ := Aside0.mk (hi); clear HB; clear HI441; have HB := n0_; have HI441 := n1_; clear n0_ n1_; (try clear hb); (try clear hb2); (try clear hk); (try clear hi)))
                                go_roundg k4
                                case measure => have := HK1.out; have := HJ7.out; have := HJ29.out; have := HK4.out; omega
                                case rel => exact ⟨(wrap64 (x13_4 + 1)), (t465), (t466), (t467), (t468), (t469), (t470), (by first | rfl | (simp; done) | (simp [*]; done)), H', ⟨by have := HK1.out; have := HJ7.out; have := HJ29.out; have := HK4.out; omega⟩, ⟨by repeat (first | (with_reducible first | exact HI441.out | apply IsS62.alloc | apply IsS62.drewN | apply IsS62.drew | apply IsS62.set_0 | apply IsS62.set_1 | apply IsS62.set_2 | apply IsS62.set_3 | apply IsS62.set_4 | apply IsS62.set_5) | exact HI441.out)⟩, ⟨by repeat (first | (with_reducible first | exact HB.out | apply below_alloc | apply pw_below_drewN | apply below_drew1 | refine below_set ?_ (IsS62.ge HI441.out)) | exact HB.out)⟩⟩
                            · rw [if_neg c36] at H
                              have c36b0 : decide (x13_4 ≤ (wrap64 (t450 + 1))) = false := decide_eq_false c36
                              clear c36
                              have H' := Aside0.mk H
                              clear H
                              go_wp2
                              go_roundg k4
                              case measure => have := HK1.out; have := HJ7.out; have := HJ29.out; have := HK4.out; omega
                              case rel => exact ⟨(t450), (wrap64 (x10_1 + 1)), (x442000_4), (x442001_4), (x442002_4), (x442003_4), (x442004_4), (x442005_4), (by first | rfl | (simp; done) | (simp [*]; done)), (by first | rfl | (simp; done) | (simp [*]; done)), H', ⟨by have := HK1.out; have := HJ7.out; have := HJ29.out; have := HK4.out; omega⟩, ⟨by repeat (first | (with_reducible first | exact HI441.out | apply IsS62.alloc | apply IsS62.drewN | apply IsS62.drew | apply IsS62.set_0 | apply IsS62.set_1 | apply IsS62.set_2 | apply IsS62.set_3 | apply IsS62.set_4 | apply IsS62.set_5) | exact HI441.out)⟩, ⟨by repeat (first | (with_reducible first | exact HB.out | apply below_alloc | apply pw_below_drewN | apply below_drew1 | refine below_set ?_ (IsS62.ge HI441.out)) | exact HB.out)⟩⟩
              · rw [if_neg c12] at H
                exact absurd H (by simp)
            · rw [if_neg c11] at H
              exact absurd H (by simp)
          · replace c10 := Bool.eq_false_iff.mpr c10
            subst c10
            have H1 : (some t434) = some true := by rw [if_neg (show ¬ (false = true) by decide)] at H; exact H
            clear H
            have H := H1
            clear H1
            have HT_ := Option.some.inj H
            clear H
            go_wp2
            go_ret
            exact ⟨by first | rfl | (simp [errW_none, errW_some] <;> rfl) | (simp [*, errW_none, errW_some] <;> rfl), by repeat (first | (with_reducible first | exact HB.out | apply below_alloc | apply pw_below_drewN | apply below_drew1 | refine below_set ?_ (IsS62.ge HI441.out)) | exact HB.out)⟩

/-- THE ONE PURE STATEMENT of millwrightlaw09_LifeOnce: yours. -/
def millwrightlaw09_LifeOnce.Pure : Prop := ∀ (a0 : Int) (a1 : Int) (l2 : List Int), (Lit.int .i64 a0).wf = true → (Lit.int .i64 a1).wf = true → l2.length ≤ maxLen → l2.length * 1 ≤ 140737488351232 → (∀ x ∈ l2, (Lit.int .u8 x).wf = true) → ∃ k, millwrightlaw09_LifeOnce.f k a0 a1 l2 = some true
theorem millwrightlaw09_LifeOnce.walk (P : millwrightlaw09_LifeOnce.Pure) (a0 : Int) (a1 : Int) (a2 : Option Addr) (len2 cap2 : Nat) (z2 : List Int) (w : World) (w0 : (Lit.int .i64 a0).wf = true) (w1 : (Lit.int .i64 a1).wf = true) (w2 : (a2 = none ∧ len2 = 0 ∧ cap2 = 0 ∧ z2 = []) ∨ ∃ x, a2 = some x ∧ len2 ≤ cap2 ∧ cap2 ≤ maxLen ∧ z2.length = cap2 ∧ (∀ i, i < z2.length → w.cell? (x.add i) = some (.int .u8 (z2.getD i 0))) ∧ ∀ n ∈ z2, (Lit.int .u8 n).wf = true) (y2 : len2 * 1 ≤ 140737488351232) :
    Calls Try.prog 13 #[.int .i64 a0, .int .i64 a1, .slice a2 len2 cap2] w fun e w' => e = .returned (.bool true) ∧ Below w.heap.size w w' := by
  obtain ⟨l2, rfl, hr2, hm2, hw2, hc2⟩ := ReadsInt.ofRowC w2
  obtain ⟨k, h⟩ := P a0 a1 l2 w0 w1 hm2 y2 hw2
  refine (millwrightlaw09_LifeOnce.calls k a0 a1 _ _ l2 w (Kd.C_of_reads (d := (0 : Int)) (h1 := fun _ => rfl) hr2) hc2 h).mono ?_
  rintro e w' ⟨rfl, hd⟩
  exact ⟨rfl, hd⟩

end Go.Proofs.Ytkldfjlbgmppfab.MLifeOnce
