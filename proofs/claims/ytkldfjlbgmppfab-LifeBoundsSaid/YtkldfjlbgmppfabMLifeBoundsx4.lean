-- Written by a program of this session out of Lean's own print of the program. Not trusted: Lean checks it.
import Derived.Test.YtkldfjlbgmppfabMLifeBoundsx0
import Derived.Test.YtkldfjlbgmppfabMLifeBoundsx2
import Derived.Test.YtkldfjlbgmppfabMLifeBoundsx3
namespace Go.Proofs.Ytkldfjlbgmppfab.MLifeBounds
open Go.RowKit Go.Proofs.YtkldfjlbgmppfabW.PrintWords Go.Proofs.YtkldfjlbgmppfabW.PrintLast Go.Proofs.YtkldfjlbgmppfabW.PrintMore
attribute [local go_sem] max2_int min2_int max_two min_two max_three min_three max_four min_four Wide.cell_twice  -- for this text's walks alone
set_option linter.unusedVariables false
set_option linter.unusedSimpArgs false

/-! ### millwrightlaw09_does: function 40 -/
def millwrightlaw09_does.f (k : Nat) (s0_0 : Int) (s0_1 : Int) (s0_2 : Int) (s0_3 : Int) (s0_4 : Int) (s0_5 : Int) (a1 : Int) : Option (Int × Int × Int × Int × Int × Int × Int) := if a1 = 0 then ((life_Life_Want.f k s0_0 s0_1 s0_2 s0_3 s0_4 s0_5).bind fun bt357 => (some (bt357.1, bt357.2.1, bt357.2.2.1, bt357.2.2.2.1, bt357.2.2.2.2.1, bt357.2.2.2.2.2.1, bt357.2.2.2.2.2.2))) else (if a1 = 1 then ((life_Life_Start.f k s0_0 s0_1 s0_2 s0_3 s0_4 s0_5).bind fun bt364 => (some (bt364.1, bt364.2.1, bt364.2.2.1, bt364.2.2.2.1, bt364.2.2.2.2.1, bt364.2.2.2.2.2.1, bt364.2.2.2.2.2.2))) else (if a1 = 2 then ((life_Life_Stop.f k s0_0 s0_1 s0_2 s0_3 s0_4 s0_5).bind fun bt371 => (some (bt371.1, bt371.2.1, bt371.2.2.1, bt371.2.2.2.1, bt371.2.2.2.2.1, bt371.2.2.2.2.2.1, bt371.2.2.2.2.2.2))) else (if a1 = 3 then ((life_Life_Wait.f k s0_0 s0_1 s0_2 s0_3 s0_4 s0_5).bind fun bt378 => (some (bt378.1, bt378.2.1, bt378.2.2.1, bt378.2.2.2.1, bt378.2.2.2.2.1, bt378.2.2.2.2.2.1, bt378.2.2.2.2.2.2))) else (if a1 = 4 then ((life_Life_Again.f k s0_0 s0_1 s0_2 s0_3 s0_4 s0_5).bind fun bt385 => (some (bt385.1, bt385.2.1, bt385.2.2.1, bt385.2.2.2.1, bt385.2.2.2.2.1, bt385.2.2.2.2.2.1, bt385.2.2.2.2.2.2))) else (if a1 = 5 then ((life_Life_Wake.f k s0_0 s0_1 s0_2 s0_3 s0_4 s0_5).bind fun bt392 => (some (bt392.1, bt392.2.1, bt392.2.2.1, bt392.2.2.2.1, bt392.2.2.2.2.1, bt392.2.2.2.2.2.1, bt392.2.2.2.2.2.2))) else (if a1 = 6 then ((life_Life_Miss.f k s0_0 s0_1 s0_2 s0_3 s0_4 s0_5).bind fun bt399 => (some (bt399.1, bt399.2.1, bt399.2.2.1, bt399.2.2.2.1, bt399.2.2.2.2.1, bt399.2.2.2.2.2.1, bt399.2.2.2.2.2.2))) else (if a1 = 7 then ((life_Life_Rested.f k s0_0 s0_1 s0_2 s0_3 s0_4 s0_5).bind fun bt406 => (some (bt406.1, bt406.2.1, bt406.2.2.1, bt406.2.2.2.1, bt406.2.2.2.2.1, bt406.2.2.2.2.2.1, bt406.2.2.2.2.2.2))) else (if a1 = 8 then ((life_Life_End.f k s0_0 s0_1 s0_2 s0_3 s0_4 s0_5).bind fun bt413 => (some (bt413.1, bt413.2.1, bt413.2.2.1, bt413.2.2.2.1, bt413.2.2.2.2.1, bt413.2.2.2.2.2.1, bt413.2.2.2.2.2.2))) else (if a1 = 9 then ((life_Life_Fall.f k s0_0 s0_1 s0_2 s0_3 s0_4 s0_5).bind fun bt420 => (some (bt420.1, bt420.2.1, bt420.2.2.1, bt420.2.2.2.1, bt420.2.2.2.2.1, bt420.2.2.2.2.2.1, bt420.2.2.2.2.2.2))) else ((life_Life_Turn.f k s0_0 s0_1 s0_2 s0_3 s0_4 s0_5).bind fun bt427 => (some (bt427.1, bt427.2.1, bt427.2.2.1, bt427.2.2.2.1, bt427.2.2.2.2.1, bt427.2.2.2.2.2.1, bt427.2.2.2.2.2.2))))))))))))
theorem millwrightlaw09_does.mono : ∀ a0 a1 a2 a3 a4 a5 a6 k, LeO (millwrightlaw09_does.f k a0 a1 a2 a3 a4 a5 a6) (millwrightlaw09_does.f (k + 1) a0 a1 a2 a3 a4 a5 a6) := by
  intro a0 a1 a2 a3 a4 a5 a6 k
  unfold millwrightlaw09_does.f
  repeat' first
      | (with_reducible exact life_Life_Again.mono _ _ _ _ _ _ _)
      | (with_reducible exact life_Life_End.mono _ _ _ _ _ _ _)
      | (with_reducible exact life_Life_Fall.mono _ _ _ _ _ _ _)
      | (with_reducible exact life_Life_Miss.mono _ _ _ _ _ _ _)
      | (with_reducible exact life_Life_Rested.mono _ _ _ _ _ _ _)
      | (with_reducible exact life_Life_Start.mono _ _ _ _ _ _ _)
      | (with_reducible exact life_Life_Stop.mono _ _ _ _ _ _ _)
      | (with_reducible exact life_Life_Turn.mono _ _ _ _ _ _ _)
      | (with_reducible exact life_Life_Wait.mono _ _ _ _ _ _ _)
      | (with_reducible exact life_Life_Wake.mono _ _ _ _ _ _ _)
      | (with_reducible exact life_Life_Want.mono _ _ _ _ _ _ _)
      | (with_reducible exact LeO.refl _)
      | (with_reducible exact LeO.none _)
      | (with_reducible refine LeO.ite ?_ ?_)
      | (with_reducible refine LeO.bind ?_ (fun _ => ?_))
      | exact life_Life_Again.mono _ _ _ _ _ _ _
      | exact life_Life_End.mono _ _ _ _ _ _ _
      | exact life_Life_Fall.mono _ _ _ _ _ _ _
      | exact life_Life_Miss.mono _ _ _ _ _ _ _
      | exact life_Life_Rested.mono _ _ _ _ _ _ _
      | exact life_Life_Start.mono _ _ _ _ _ _ _
      | exact life_Life_Stop.mono _ _ _ _ _ _ _
      | exact life_Life_Turn.mono _ _ _ _ _ _ _
      | exact life_Life_Wait.mono _ _ _ _ _ _ _
      | exact life_Life_Wake.mono _ _ _ _ _ _ _
      | exact life_Life_Want.mono _ _ _ _ _ _ _
      | exact LeO.none _
      | refine LeO.ite ?_ ?_
      | refine LeO.bind ?_ (fun _ => ?_)
set_option maxHeartbeats 8000000 in
set_option maxRecDepth 100000 in
theorem millwrightlaw09_does.calls (k : Nat) (g : Nat) (s0_0 : Int) (s0_1 : Int) (s0_2 : Int) (s0_3 : Int) (s0_4 : Int) (s0_5 : Int) (a1 : Int) (r1 : Int) (r2 : Int) (r3 : Int) (r4 : Int) (r5 : Int) (r6 : Int) (r7 : Int) (w0 w : World) (hI : IsS62 w0 w g s0_0 s0_1 s0_2 s0_3 s0_4 s0_5) (hB : Below w0.heap.size w0 w) (h : millwrightlaw09_does.f k s0_0 s0_1 s0_2 s0_3 s0_4 s0_5 a1 = some (r1, r2, r3, r4, r5, r6, r7)) :
    Calls Try.prog 40 #[.pointer (some ⟨g, 0, none⟩), .int .i64 a1] w fun e w' => e = .returned (.int .i64 r1) ∧ IsS62 w0 w' g r2 r3 r4 r5 r6 r7 ∧ Below w0.heap.size w0 w' ∧ KeepBut w w' g none := by
  have HI0 := Aside0.mk hI
  have HK := Aside0.mk (KeepBut.refl w g none)
  have HL := Aside0.mk hB.size
  clear hI
  have HW0 := Aside0.mk hB.size
  have HB := Aside0.mk hB
  clear hB
  have H : (if a1 = 0 then ((life_Life_Want.f k s0_0 s0_1 s0_2 s0_3 s0_4 s0_5).bind fun bt357 => (some (bt357.1, bt357.2.1, bt357.2.2.1, bt357.2.2.2.1, bt357.2.2.2.2.1, bt357.2.2.2.2.2.1, bt357.2.2.2.2.2.2))) else (if a1 = 1 then ((life_Life_Start.f k s0_0 s0_1 s0_2 s0_3 s0_4 s0_5).bind fun bt364 => (some (bt364.1, bt364.2.1, bt364.2.2.1, bt364.2.2.2.1, bt364.2.2.2.2.1, bt364.2.2.2.2.2.1, bt364.2.2.2.2.2.2))) else (if a1 = 2 then ((life_Life_Stop.f k s0_0 s0_1 s0_2 s0_3 s0_4 s0_5).bind fun bt371 => (some (bt371.1, bt371.2.1, bt371.2.2.1, bt371.2.2.2.1, bt371.2.2.2.2.1, bt371.2.2.2.2.2.1, bt371.2.2.2.2.2.2))) else (if a1 = 3 then ((life_Life_Wait.f k s0_0 s0_1 s0_2 s0_3 s0_4 s0_5).bind fun bt378 => (some (bt378.1, bt378.2.1, bt378.2.2.1, bt378.2.2.2.1, bt378.2.2.2.2.1, bt378.2.2.2.2.2.1, bt378.2.2.2.2.2.2))) else (if a1 = 4 then ((life_Life_Again.f k s0_0 s0_1 s0_2 s0_3 s0_4 s0_5).bind fun bt385 => (some (bt385.1, bt385.2.1, bt385.2.2.1, bt385.2.2.2.1, bt385.2.2.2.2.1, bt385.2.2.2.2.2.1, bt385.2.2.2.2.2.2))) else (if a1 = 5 then ((life_Life_Wake.f k s0_0 s0_1 s0_2 s0_3 s0_4 s0_5).bind fun bt392 => (some (bt392.1, bt392.2.1, bt392.2.2.1, bt392.2.2.2.1, bt392.2.2.2.2.1, bt392.2.2.2.2.2.1, bt392.2.2.2.2.2.2))) else (if a1 = 6 then ((life_Life_Miss.f k s0_0 s0_1 s0_2 s0_3 s0_4 s0_5).bind fun bt399 => (some (bt399.1, bt399.2.1, bt399.2.2.1, bt399.2.2.2.1, bt399.2.2.2.2.1, bt399.2.2.2.2.2.1, bt399.2.2.2.2.2.2))) else (if a1 = 7 then ((life_Life_Rested.f k s0_0 s0_1 s0_2 s0_3 s0_4 s0_5).bind fun bt406 => (some (bt406.1, bt406.2.1, bt406.2.2.1, bt406.2.2.2.1, bt406.2.2.2.2.1, bt406.2.2.2.2.2.1, bt406.2.2.2.2.2.2))) else (if a1 = 8 then ((life_Life_End.f k s0_0 s0_1 s0_2 s0_3 s0_4 s0_5).bind fun bt413 => (some (bt413.1, bt413.2.1, bt413.2.2.1, bt413.2.2.2.1, bt413.2.2.2.2.1, bt413.2.2.2.2.2.1, bt413.2.2.2.2.2.2))) else (if a1 = 9 then ((life_Life_Fall.f k s0_0 s0_1 s0_2 s0_3 s0_4 s0_5).bind fun bt420 => (some (bt420.1, bt420.2.1, bt420.2.2.1, bt420.2.2.2.1, bt420.2.2.2.2.1, bt420.2.2.2.2.2.1, bt420.2.2.2.2.2.2))) else ((life_Life_Turn.f k s0_0 s0_1 s0_2 s0_3 s0_4 s0_5).bind fun bt427 => (some (bt427.1, bt427.2.1, bt427.2.2.1, bt427.2.2.2.1, bt427.2.2.2.2.1, bt427.2.2.2.2.2.1, bt427.2.2.2.2.2.2))))))))))))) = some (r1, r2, r3, r4, r5, r6, r7) := h
  clear h
  by_cases c3 : a1 = 0
  · rw [if_pos c3] at H
    have c3b0 : (a1 == 0) = true := beq_iff_eq.mpr c3
    have c3b1 : (a1 != 0) = false := bne_eq_false_iff_eq.mpr c3
    clear c3
    replace H := Option.bind_eq_some_iff.mp H
    obtain ⟨⟨t357, t358, t359, t360, t361, t362, t363⟩, A40, H⟩ := H
    replace H : (some (t357, t358, t359, t360, t361, t362, t363)) = some (r1, r2, r3, r4, r5, r6, r7) := H
    have A4 := Aside0.mk A40
    clear A40
    simp only [Option.some.injEq, Prod.mk.injEq] at H
    obtain ⟨rfl, rfl, rfl, rfl, rfl, rfl, rfl⟩ := H
    go_enter Try.func40, Try.ntmps40
    go_wp2_with (first | ((with_reducible refine gate_callee (f := 17) rfl ?_); refine goesL_ (some 9) rfl rfl Try.func17 (by kernel_rfl) rfl #[.pointer (some ⟨g, 0, none⟩)] rfl (by (try simp only [List.map_toArray, List.map_cons, List.map_nil]); first | done | rfl | (simp only [List.length_drop, List.length_take]; rfl)) ?_; (with_reducible refine (life_Life_Want.calls k g s0_0 s0_1 s0_2 s0_3 s0_4 s0_5 t357 t358 t359 t360 t361 t362 t363 w0 _ ?side1 ?side2 A4.out).mono ?_); (case side1 => repeat (first | (with_reducible first | exact HI0.out | apply IsS62.alloc | apply IsS62.drewN | apply IsS62.drew | apply IsS62.set_0 | apply IsS62.set_1 | apply IsS62.set_2 | apply IsS62.set_3 | apply IsS62.set_4 | apply IsS62.set_5) | exact HI0.out)); (case side2 => repeat (first | (with_reducible first | exact HB.out | apply below_alloc | apply pw_below_drewN | apply below_drew1 | refine below_set ?_ (IsS62.ge HI0.out)) | exact HB.out)); rintro e w5 ⟨rfl, hi, hb, hk⟩; refine ⟨_, rfl, ?_⟩; have n0_ := Aside0.mk (KeepBut.trans (by repeat (first | (with_reducible first | exact HK.out | apply KeepBut.set_ | apply keep_drewN | apply keep_drew | apply keep_alloc) | exact HK.out)) hk (.inl rfl)); have n1_ := Aside0.mk (hb); have n2_ := Aside0.mk (hi); clear HK; clear HB; clear HI0; have HK := n0_; have HB := n1_; have HI0 := n2_; clear n0_ n1_ n2_; (try clear hb); (try clear hb2); (try clear hk); (try clear hi)))
    go_ret
    exact ⟨by first | rfl | (simp [errW_none, errW_some] <;> rfl) | (simp [*, errW_none, errW_some] <;> rfl), by repeat (first | (with_reducible first | exact HI0.out | apply IsS62.alloc | apply IsS62.drewN | apply IsS62.drew | apply IsS62.set_0 | apply IsS62.set_1 | apply IsS62.set_2 | apply IsS62.set_3 | apply IsS62.set_4 | apply IsS62.set_5) | exact HI0.out), by repeat (first | (with_reducible first | exact HB.out | apply below_alloc | apply pw_below_drewN | apply below_drew1 | refine below_set ?_ (IsS62.ge HI0.out)) | exact HB.out), by repeat (first | (with_reducible first | exact HK.out | apply KeepBut.set_ | apply keep_drewN | apply keep_drew | apply keep_alloc) | exact HK.out)⟩
  · rw [if_neg c3] at H
    have c3b0 : (a1 == 0) = false := beq_eq_false_iff_ne.mpr c3
    have c3b1 : (a1 != 0) = true := bne_iff_ne.mpr c3
    by_cases c6 : a1 = 1
    · rw [if_pos c6] at H
      have c6b0 : (a1 == 1) = true := beq_iff_eq.mpr c6
      have c6b1 : (a1 != 1) = false := bne_eq_false_iff_eq.mpr c6
      clear c6
      replace H := Option.bind_eq_some_iff.mp H
      obtain ⟨⟨t364, t365, t366, t367, t368, t369, t370⟩, A70, H⟩ := H
      replace H : (some (t364, t365, t366, t367, t368, t369, t370)) = some (r1, r2, r3, r4, r5, r6, r7) := H
      have A7 := Aside0.mk A70
      clear A70
      simp only [Option.some.injEq, Prod.mk.injEq] at H
      obtain ⟨rfl, rfl, rfl, rfl, rfl, rfl, rfl⟩ := H
      go_enter Try.func40, Try.ntmps40
      go_wp2_with (first | ((with_reducible refine gate_callee (f := 18) rfl ?_); refine goesL_ (some 13) rfl rfl Try.func18 (by kernel_rfl) rfl #[.pointer (some ⟨g, 0, none⟩)] rfl (by (try simp only [List.map_toArray, List.map_cons, List.map_nil]); first | done | rfl | (simp only [List.length_drop, List.length_take]; rfl)) ?_; (with_reducible refine (life_Life_Start.calls k g s0_0 s0_1 s0_2 s0_3 s0_4 s0_5 t364 t365 t366 t367 t368 t369 t370 w0 _ ?side1 ?side2 A7.out).mono ?_); (case side1 => repeat (first | (with_reducible first | exact HI0.out | apply IsS62.alloc | apply IsS62.drewN | apply IsS62.drew | apply IsS62.set_0 | apply IsS62.set_1 | apply IsS62.set_2 | apply IsS62.set_3 | apply IsS62.set_4 | apply IsS62.set_5) | exact HI0.out)); (case side2 => repeat (first | (with_reducible first | exact HB.out | apply below_alloc | apply pw_below_drewN | apply below_drew1 | refine below_set ?_ (IsS62.ge HI0.out)) | exact HB.out)); rintro e w8 ⟨rfl, hi, hb, hk⟩; refine ⟨_, rfl, ?_⟩; have n0_ := Aside0.mk (KeepBut.trans (by repeat (first | (with_reducible first | exact HK.out | apply KeepBut.set_ | apply keep_drewN | apply keep_drew | apply keep_alloc) | exact HK.out)) hk (.inl rfl)); have n1_ := Aside0.mk (hb); have n2_ := Aside0.mk (hi); clear HK; clear HB; clear HI0; have HK := n0_; have HB := n1_; have HI0 := n2_; clear n0_ n1_ n2_; (try clear hb); (try clear hb2); (try clear hk); (try clear hi)))
      go_ret
      exact ⟨by first | rfl | (simp [errW_none, errW_some] <;> rfl) | (simp [*, errW_none, errW_some] <;> rfl), by repeat (first | (with_reducible first | exact HI0.out | apply IsS62.alloc | apply IsS62.drewN | apply IsS62.drew | apply IsS62.set_0 | apply IsS62.set_1 | apply IsS62.set_2 | apply IsS62.set_3 | apply IsS62.set_4 | apply IsS62.set_5) | exact HI0.out), by repeat (first | (with_reducible first | exact HB.out | apply below_alloc | apply pw_below_drewN | apply below_drew1 | refine below_set ?_ (IsS62.ge HI0.out)) | exact HB.out), by repeat (first | (with_reducible first | exact HK.out | apply KeepBut.set_ | apply keep_drewN | apply keep_drew | apply keep_alloc) | exact HK.out)⟩
    · rw [if_neg c6] at H
      have c6b0 : (a1 == 1) = false := beq_eq_false_iff_ne.mpr c6
      have c6b1 : (a1 != 1) = true := bne_iff_ne.mpr c6
      by_cases c9 : a1 = 2
      · rw [if_pos c9] at H
        have c9b0 : (a1 == 2) = true := beq_iff_eq.mpr c9
        have c9b1 : (a1 != 2) = false := bne_eq_false_iff_eq.mpr c9
        clear c9
        replace H := Option.bind_eq_some_iff.mp H
        obtain ⟨⟨t371, t372, t373, t374, t375, t376, t377⟩, A100, H⟩ := H
        replace H : (some (t371, t372, t373, t374, t375, t376, t377)) = some (r1, r2, r3, r4, r5, r6, r7) := H
        have A10 := Aside0.mk A100
        clear A100
        simp only [Option.some.injEq, Prod.mk.injEq] at H
        obtain ⟨rfl, rfl, rfl, rfl, rfl, rfl, rfl⟩ := H
        go_enter Try.func40, Try.ntmps40
        go_wp2_with (first | ((with_reducible refine gate_callee (f := 19) rfl ?_); refine goesL_ (some 17) rfl rfl Try.func19 (by kernel_rfl) rfl #[.pointer (some ⟨g, 0, none⟩)] rfl (by (try simp only [List.map_toArray, List.map_cons, List.map_nil]); first | done | rfl | (simp only [List.length_drop, List.length_take]; rfl)) ?_; (with_reducible refine (life_Life_Stop.calls k g s0_0 s0_1 s0_2 s0_3 s0_4 s0_5 t371 t372 t373 t374 t375 t376 t377 w0 _ ?side1 ?side2 A10.out).mono ?_); (case side1 => repeat (first | (with_reducible first | exact HI0.out | apply IsS62.alloc | apply IsS62.drewN | apply IsS62.drew | apply IsS62.set_0 | apply IsS62.set_1 | apply IsS62.set_2 | apply IsS62.set_3 | apply IsS62.set_4 | apply IsS62.set_5) | exact HI0.out)); (case side2 => repeat (first | (with_reducible first | exact HB.out | apply below_alloc | apply pw_below_drewN | apply below_drew1 | refine below_set ?_ (IsS62.ge HI0.out)) | exact HB.out)); rintro e w11 ⟨rfl, hi, hb, hk⟩; refine ⟨_, rfl, ?_⟩; have n0_ := Aside0.mk (KeepBut.trans (by repeat (first | (with_reducible first | exact HK.out | apply KeepBut.set_ | apply keep_drewN | apply keep_drew | apply keep_alloc) | exact HK.out)) hk (.inl rfl)); have n1_ := Aside0.mk (hb); have n2_ := Aside0.mk (hi); clear HK; clear HB; clear HI0; have HK := n0_; have HB := n1_; have HI0 := n2_; clear n0_ n1_ n2_; (try clear hb); (try clear hb2); (try clear hk); (try clear hi)))
        go_ret
        exact ⟨by first | rfl | (simp [errW_none, errW_some] <;> rfl) | (simp [*, errW_none, errW_some] <;> rfl), by repeat (first | (with_reducible first | exact HI0.out | apply IsS62.alloc | apply IsS62.drewN | apply IsS62.drew | apply IsS62.set_0 | apply IsS62.set_1 | apply IsS62.set_2 | apply IsS62.set_3 | apply IsS62.set_4 | apply IsS62.set_5) | exact HI0.out), by repeat (first | (with_reducible first | exact HB.out | apply below_alloc | apply pw_below_drewN | apply below_drew1 | refine below_set ?_ (IsS62.ge HI0.out)) | exact HB.out), by repeat (first | (with_reducible first | exact HK.out | apply KeepBut.set_ | apply keep_drewN | apply keep_drew | apply keep_alloc) | exact HK.out)⟩
      · rw [if_neg c9] at H
        have c9b0 : (a1 == 2) = false := beq_eq_false_iff_ne.mpr c9
        have c9b1 : (a1 != 2) = true := bne_iff_ne.mpr c9
        by_cases c12 : a1 = 3
        · rw [if_pos c12] at H
          have c12b0 : (a1 == 3) = true := beq_iff_eq.mpr c12
          have c12b1 : (a1 != 3) = false := bne_eq_false_iff_eq.mpr c12
          clear c12
          replace H := Option.bind_eq_some_iff.mp H
          obtain ⟨⟨t378, t379, t380, t381, t382, t383, t384⟩, A130, H⟩ := H
          replace H : (some (t378, t379, t380, t381, t382, t383, t384)) = some (r1, r2, r3, r4, r5, r6, r7) := H
          have A13 := Aside0.mk A130
          clear A130
          simp only [Option.some.injEq, Prod.mk.injEq] at H
          obtain ⟨rfl, rfl, rfl, rfl, rfl, rfl, rfl⟩ := H
          go_enter Try.func40, Try.ntmps40
          go_wp2_with (first | ((with_reducible refine gate_callee (f := 52) rfl ?_); refine goesL_ (some 21) rfl rfl Try.func52 (by kernel_rfl) rfl #[.pointer (some ⟨g, 0, none⟩)] rfl (by (try simp only [List.map_toArray, List.map_cons, List.map_nil]); first | done | rfl | (simp only [List.length_drop, List.length_take]; rfl)) ?_; (with_reducible refine (life_Life_Wait.calls k g s0_0 s0_1 s0_2 s0_3 s0_4 s0_5 t378 t379 t380 t381 t382 t383 t384 w0 _ ?side1 ?side2 A13.out).mono ?_); (case side1 => repeat (first | (with_reducible first | exact HI0.out | apply IsS62.alloc | apply IsS62.drewN | apply IsS62.drew | apply IsS62.set_0 | apply IsS62.set_1 | apply IsS62.set_2 | apply IsS62.set_3 | apply IsS62.set_4 | apply IsS62.set_5) | exact HI0.out)); (case side2 => repeat (first | (with_reducible first | exact HB.out | apply below_alloc | apply pw_below_drewN | apply below_drew1 | refine below_set ?_ (IsS62.ge HI0.out)) | exact HB.out)); rintro e w14 ⟨rfl, hi, hb, hk⟩; refine ⟨_, rfl, ?_⟩; have n0_ := Aside0.mk (KeepBut.trans (by repeat (first | (with_reducible first | exact HK.out | apply KeepBut.set_ | apply keep_drewN | apply keep_drew | apply keep_alloc) | exact HK.out)) hk (.inl rfl)); have n1_ := Aside0.mk (hb); have n2_ := Aside0.mk (hi); clear HK; clear HB; clear HI0; have HK := n0_; have HB := n1_; have HI0 := n2_; clear n0_ n1_ n2_; (try clear hb); (try clear hb2); (try clear hk); (try clear hi)))
          go_ret
          exact ⟨by first | rfl | (simp [errW_none, errW_some] <;> rfl) | (simp [*, errW_none, errW_some] <;> rfl), by repeat (first | (with_reducible first | exact HI0.out | apply IsS62.alloc | apply IsS62.drewN | apply IsS62.drew | apply IsS62.set_0 | apply IsS62.set_1 | apply IsS62.set_2 | apply IsS62.set_3 | apply IsS62.set_4 | apply IsS62.set_5) | exact HI0.out), by repeat (first | (with_reducible first | exact HB.out | apply below_alloc | apply pw_below_drewN | apply below_drew1 | refine below_set ?_ (IsS62.ge HI0.out)) | exact HB.out), by repeat (first | (with_reducible first | exact HK.out | apply KeepBut.set_ | apply keep_drewN | apply keep_drew | apply keep_alloc) | exact HK.out)⟩
        · rw [if_neg c12] at H
          have c12b0 : (a1 == 3) = false := beq_eq_false_iff_ne.mpr c12
          have c12b1 : (a1 != 3) = true := bne_iff_ne.mpr c12
          by_cases c15 : a1 = 4
          · rw [if_pos c15] at H
            have c15b0 : (a1 == 4) = true := beq_iff_eq.mpr c15
            have c15b1 : (a1 != 4) = false := bne_eq_false_iff_eq.mpr c15
            clear c15
            replace H := Option.bind_eq_some_iff.mp H
            obtain ⟨⟨t385, t386, t387, t388, t389, t390, t391⟩, A160, H⟩ := H
            replace H : (some (t385, t386, t387, t388, t389, t390, t391)) = some (r1, r2, r3, r4, r5, r6, r7) := H
            have A16 := Aside0.mk A160
            clear A160
            simp only [Option.some.injEq, Prod.mk.injEq] at H
            obtain ⟨rfl, rfl, rfl, rfl, rfl, rfl, rfl⟩ := H
            go_enter Try.func40, Try.ntmps40
            go_wp2_with (first | ((with_reducible refine gate_callee (f := 53) rfl ?_); refine goesL_ (some 25) rfl rfl Try.func53 (by kernel_rfl) rfl #[.pointer (some ⟨g, 0, none⟩)] rfl (by (try simp only [List.map_toArray, List.map_cons, List.map_nil]); first | done | rfl | (simp only [List.length_drop, List.length_take]; rfl)) ?_; (with_reducible refine (life_Life_Again.calls k g s0_0 s0_1 s0_2 s0_3 s0_4 s0_5 t385 t386 t387 t388 t389 t390 t391 w0 _ ?side1 ?side2 A16.out).mono ?_); (case side1 => repeat (first | (with_reducible first | exact HI0.out | apply IsS62.alloc | apply IsS62.drewN | apply IsS62.drew | apply IsS62.set_0 | apply IsS62.set_1 | apply IsS62.set_2 | apply IsS62.set_3 | apply IsS62.set_4 | apply IsS62.set_5) | exact HI0.out)); (case side2 => repeat (first | (with_reducible first | exact HB.out | apply below_alloc | apply pw_below_drewN | apply below_drew1 | refine below_set ?_ (IsS62.ge HI0.out)) | exact HB.out)); rintro e w17 ⟨rfl, hi, hb, hk⟩; refine ⟨_, rfl, ?_⟩; have n0_ := Aside0.mk (KeepBut.trans (by repeat (first | (with_reducible first | exact HK.out | apply KeepBut.set_ | apply keep_drewN | apply keep_drew | apply keep_alloc) | exact HK.out)) hk (.inl rfl)); have n1_ := Aside0.mk (hb); have n2_ := Aside0.mk (hi); clear HK; clear HB; clear HI0; have HK := n0_; have HB := n1_; have HI0 := n2_; clear n0_ n1_ n2_; (try clear hb); (try clear hb2); (try clear hk); (try clear hi)))
            go_ret
            exact ⟨by first | rfl | (simp [errW_none, errW_some] <;> rfl) | (simp [*, errW_none, errW_some] <;> rfl), by repeat (first | (with_reducible first | exact HI0.out | apply IsS62.alloc | apply IsS62.drewN | apply IsS62.drew | apply IsS62.set_0 | apply IsS62.set_1 | apply IsS62.set_2 | apply IsS62.set_3 | apply IsS62.set_4 | apply IsS62.set_5) | exact HI0.out), by repeat (first | (with_reducible first | exact HB.out | apply below_alloc | apply pw_below_drewN | apply below_drew1 | refine below_set ?_ (IsS62.ge HI0.out)) | exact HB.out), by repeat (first | (with_reducible first | exact HK.out | apply KeepBut.set_ | apply keep_drewN | apply keep_drew | apply keep_alloc) | exact HK.out)⟩
          · rw [if_neg c15] at H
            have c15b0 : (a1 == 4) = false := beq_eq_false_iff_ne.mpr c15
            have c15b1 : (a1 != 4) = true := bne_iff_ne.mpr c15
            by_cases c18 : a1 = 5
            · rw [if_pos c18] at H
              have c18b0 : (a1 == 5) = true := beq_iff_eq.mpr c18
              have c18b1 : (a1 != 5) = false := bne_eq_false_iff_eq.mpr c18
              clear c18
              replace H := Option.bind_eq_some_iff.mp H
              obtain ⟨⟨t392, t393, t394, t395, t396, t397, t398⟩, A190, H⟩ := H
              replace H : (some (t392, t393, t394, t395, t396, t397, t398)) = some (r1, r2, r3, r4, r5, r6, r7) := H
              have A19 := Aside0.mk A190
              clear A190
              simp only [Option.some.injEq, Prod.mk.injEq] at H
              obtain ⟨rfl, rfl, rfl, rfl, rfl, rfl, rfl⟩ := H
              go_enter Try.func40, Try.ntmps40
              go_wp2_with (first | ((with_reducible refine gate_callee (f := 54) rfl ?_); refine goesL_ (some 29) rfl rfl Try.func54 (by kernel_rfl) rfl #[.pointer (some ⟨g, 0, none⟩)] rfl (by (try simp only [List.map_toArray, List.map_cons, List.map_nil]); first | done | rfl | (simp only [List.length_drop, List.length_take]; rfl)) ?_; (with_reducible refine (life_Life_Wake.calls k g s0_0 s0_1 s0_2 s0_3 s0_4 s0_5 t392 t393 t394 t395 t396 t397 t398 w0 _ ?side1 ?side2 A19.out).mono ?_); (case side1 => repeat (first | (with_reducible first | exact HI0.out | apply IsS62.alloc | apply IsS62.drewN | apply IsS62.drew | apply IsS62.set_0 | apply IsS62.set_1 | apply IsS62.set_2 | apply IsS62.set_3 | apply IsS62.set_4 | apply IsS62.set_5) | exact HI0.out)); (case side2 => repeat (first | (with_reducible first | exact HB.out | apply below_alloc | apply pw_below_drewN | apply below_drew1 | refine below_set ?_ (IsS62.ge HI0.out)) | exact HB.out)); rintro e w20 ⟨rfl, hi, hb, hk⟩; refine ⟨_, rfl, ?_⟩; have n0_ := Aside0.mk (KeepBut.trans (by repeat (first | (with_reducible first | exact HK.out | apply KeepBut.set_ | apply keep_drewN | apply keep_drew | apply keep_alloc) | exact HK.out)) hk (.inl rfl)); have n1_ := Aside0.mk (hb); have n2_ := Aside0.mk (hi); clear HK; clear HB; clear HI0; have HK := n0_; have HB := n1_; have HI0 := n2_; clear n0_ n1_ n2_; (try clear hb); (try clear hb2); (try clear hk); (try clear hi)))
              go_ret
              exact ⟨by first | rfl | (simp [errW_none, errW_some] <;> rfl) | (simp [*, errW_none, errW_some] <;> rfl), by repeat (first | (with_reducible first | exact HI0.out | apply IsS62.alloc | apply IsS62.drewN | apply IsS62.drew | apply IsS62.set_0 | apply IsS62.set_1 | apply IsS62.set_2 | apply IsS62.set_3 | apply IsS62.set_4 | apply IsS62.set_5) | exact HI0.out), by repeat (first | (with_reducible first | exact HB.out | apply below_alloc | apply pw_below_drewN | apply below_drew1 | refine below_set ?_ (IsS62.ge HI0.out)) | exact HB.out), by repeat (first | (with_reducible first | exact HK.out | apply KeepBut.set_ | apply keep_drewN | apply keep_drew | apply keep_alloc) | exact HK.out)⟩
            · rw [if_neg c18] at H
              have c18b0 : (a1 == 5) = false := beq_eq_false_iff_ne.mpr c18
              have c18b1 : (a1 != 5) = true := bne_iff_ne.mpr c18
              by_cases c21 : a1 = 6
              · rw [if_pos c21] at H
                have c21b0 : (a1 == 6) = true := beq_iff_eq.mpr c21
                have c21b1 : (a1 != 6) = false := bne_eq_false_iff_eq.mpr c21
                clear c21
                replace H := Option.bind_eq_some_iff.mp H
                obtain ⟨⟨t399, t400, t401, t402, t403, t404, t405⟩, A220, H⟩ := H
                replace H : (some (t399, t400, t401, t402, t403, t404, t405)) = some (r1, r2, r3, r4, r5, r6, r7) := H
                have A22 := Aside0.mk A220
                clear A220
                simp only [Option.some.injEq, Prod.mk.injEq] at H
                obtain ⟨rfl, rfl, rfl, rfl, rfl, rfl, rfl⟩ := H
                go_enter Try.func40, Try.ntmps40
                go_wp2_with (first | ((with_reducible refine gate_callee (f := 45) rfl ?_); refine goesL_ (some 33) rfl rfl Try.func45 (by kernel_rfl) rfl #[.pointer (some ⟨g, 0, none⟩)] rfl (by (try simp only [List.map_toArray, List.map_cons, List.map_nil]); first | done | rfl | (simp only [List.length_drop, List.length_take]; rfl)) ?_; (with_reducible refine (life_Life_Miss.calls k g s0_0 s0_1 s0_2 s0_3 s0_4 s0_5 t399 t400 t401 t402 t403 t404 t405 w0 _ ?side1 ?side2 A22.out).mono ?_); (case side1 => repeat (first | (with_reducible first | exact HI0.out | apply IsS62.alloc | apply IsS62.drewN | apply IsS62.drew | apply IsS62.set_0 | apply IsS62.set_1 | apply IsS62.set_2 | apply IsS62.set_3 | apply IsS62.set_4 | apply IsS62.set_5) | exact HI0.out)); (case side2 => repeat (first | (with_reducible first | exact HB.out | apply below_alloc | apply pw_below_drewN | apply below_drew1 | refine below_set ?_ (IsS62.ge HI0.out)) | exact HB.out)); rintro e w23 ⟨rfl, hi, hb, hk⟩; refine ⟨_, rfl, ?_⟩; have n0_ := Aside0.mk (KeepBut.trans (by repeat (first | (with_reducible first | exact HK.out | apply KeepBut.set_ | apply keep_drewN | apply keep_drew | apply keep_alloc) | exact HK.out)) hk (.inl rfl)); have n1_ := Aside0.mk (hb); have n2_ := Aside0.mk (hi); clear HK; clear HB; clear HI0; have HK := n0_; have HB := n1_; have HI0 := n2_; clear n0_ n1_ n2_; (try clear hb); (try clear hb2); (try clear hk); (try clear hi)))
                go_ret
                exact ⟨by first | rfl | (simp [errW_none, errW_some] <;> rfl) | (simp [*, errW_none, errW_some] <;> rfl), by repeat (first | (with_reducible first | exact HI0.out | apply IsS62.alloc | apply IsS62.drewN | apply IsS62.drew | apply IsS62.set_0 | apply IsS62.set_1 | apply IsS62.set_2 | apply IsS62.set_3 | apply IsS62.set_4 | apply IsS62.set_5) | exact HI0.out), by repeat (first | (with_reducible first | exact HB.out | apply below_alloc | apply pw_below_drewN | apply below_drew1 | refine below_set ?_ (IsS62.ge HI0.out)) | exact HB.out), by repeat (first | (with_reducible first | exact HK.out | apply KeepBut.set_ | apply keep_drewN | apply keep_drew | apply keep_alloc) | exact HK.out)⟩
              · rw [if_neg c21] at H
                have c21b0 : (a1 == 6) = false := beq_eq_false_iff_ne.mpr c21
                have c21b1 : (a1 != 6) = true := bne_iff_ne.mpr c21
                by_cases c24 : a1 = 7
                · rw [if_pos c24] at H
                  have c24b0 : (a1 == 7) = true := beq_iff_eq.mpr c24
                  have c24b1 : (a1 != 7) = false := bne_eq_false_iff_eq.mpr c24
                  clear c24
                  replace H := Option.bind_eq_some_iff.mp H
                  obtain ⟨⟨t406, t407, t408, t409, t410, t411, t412⟩, A250, H⟩ := H
                  replace H : (some (t406, t407, t408, t409, t410, t411, t412)) = some (r1, r2, r3, r4, r5, r6, r7) := H
                  have A25 := Aside0.mk A250
                  clear A250
                  simp only [Option.some.injEq, Prod.mk.injEq] at H
                  obtain ⟨rfl, rfl, rfl, rfl, rfl, rfl, rfl⟩ := H
                  go_enter Try.func40, Try.ntmps40
                  go_wp2_with (first | ((with_reducible refine gate_callee (f := 46) rfl ?_); refine goesL_ (some 37) rfl rfl Try.func46 (by kernel_rfl) rfl #[.pointer (some ⟨g, 0, none⟩)] rfl (by (try simp only [List.map_toArray, List.map_cons, List.map_nil]); first | done | rfl | (simp only [List.length_drop, List.length_take]; rfl)) ?_; (with_reducible refine (life_Life_Rested.calls k g s0_0 s0_1 s0_2 s0_3 s0_4 s0_5 t406 t407 t408 t409 t410 t411 t412 w0 _ ?side1 ?side2 A25.out).mono ?_); (case side1 => repeat (first | (with_reducible first | exact HI0.out | apply IsS62.alloc | apply IsS62.drewN | apply IsS62.drew | apply IsS62.set_0 | apply IsS62.set_1 | apply IsS62.set_2 | apply IsS62.set_3 | apply IsS62.set_4 | apply IsS62.set_5) | exact HI0.out)); (case side2 => repeat (first | (with_reducible first | exact HB.out | apply below_alloc | apply pw_below_drewN | apply below_drew1 | refine below_set ?_ (IsS62.ge HI0.out)) | exact HB.out)); rintro e w26 ⟨rfl, hi, hb, hk⟩; refine ⟨_, rfl, ?_⟩; have n0_ := Aside0.mk (KeepBut.trans (by repeat (first | (with_reducible first | exact HK.out | apply KeepBut.set_ | apply keep_drewN | apply keep_drew | apply keep_alloc) | exact HK.out)) hk (.inl rfl)); have n1_ := Aside0.mk (hb); have n2_ := Aside0.mk (hi); clear HK; clear HB; clear HI0; have HK := n0_; have HB := n1_; have HI0 := n2_; clear n0_ n1_ n2_; (try clear hb); (try clear hb2); (try clear hk); (try clear hi)))
                  go_ret
                  exact ⟨by first | rfl | (simp [errW_none, errW_some] <;> rfl) | (simp [*, errW_none, errW_some] <;> rfl), by repeat (first | (with_reducible first | exact HI0.out | apply IsS62.alloc | apply IsS62.drewN | apply IsS62.drew | apply IsS62.set_0 | apply IsS62.set_1 | apply IsS62.set_2 | apply IsS62.set_3 | apply IsS62.set_4 | apply IsS62.set_5) | exact HI0.out), by repeat (first | (with_reducible first | exact HB.out | apply below_alloc | apply pw_below_drewN | apply below_drew1 | refine below_set ?_ (IsS62.ge HI0.out)) | exact HB.out), by repeat (first | (with_reducible first | exact HK.out | apply KeepBut.set_ | apply keep_drewN | apply keep_drew | apply keep_alloc) | exact HK.out)⟩
                · rw [if_neg c24] at H
                  have c24b0 : (a1 == 7) = false := beq_eq_false_iff_ne.mpr c24
                  have c24b1 : (a1 != 7) = true := bne_iff_ne.mpr c24
                  by_cases c27 : a1 = 8
                  · rw [if_pos c27] at H
                    have c27b0 : (a1 == 8) = true := beq_iff_eq.mpr c27
                    have c27b1 : (a1 != 8) = false := bne_eq_false_iff_eq.mpr c27
                    clear c27
                    replace H := Option.bind_eq_some_iff.mp H
                    obtain ⟨⟨t413, t414, t415, t416, t417, t418, t419⟩, A280, H⟩ := H
                    replace H : (some (t413, t414, t415, t416, t417, t418, t419)) = some (r1, r2, r3, r4, r5, r6, r7) := H
                    have A28 := Aside0.mk A280
                    clear A280
                    simp only [Option.some.injEq, Prod.mk.injEq] at H
                    obtain ⟨rfl, rfl, rfl, rfl, rfl, rfl, rfl⟩ := H
                    go_enter Try.func40, Try.ntmps40
                    go_wp2_with (first | ((with_reducible refine gate_callee (f := 55) rfl ?_); refine goesL_ (some 41) rfl rfl Try.func55 (by kernel_rfl) rfl #[.pointer (some ⟨g, 0, none⟩)] rfl (by (try simp only [List.map_toArray, List.map_cons, List.map_nil]); first | done | rfl | (simp only [List.length_drop, List.length_take]; rfl)) ?_; (with_reducible refine (life_Life_End.calls k g s0_0 s0_1 s0_2 s0_3 s0_4 s0_5 t413 t414 t415 t416 t417 t418 t419 w0 _ ?side1 ?side2 A28.out).mono ?_); (case side1 => repeat (first | (with_reducible first | exact HI0.out | apply IsS62.alloc | apply IsS62.drewN | apply IsS62.drew | apply IsS62.set_0 | apply IsS62.set_1 | apply IsS62.set_2 | apply IsS62.set_3 | apply IsS62.set_4 | apply IsS62.set_5) | exact HI0.out)); (case side2 => repeat (first | (with_reducible first | exact HB.out | apply below_alloc | apply pw_below_drewN | apply below_drew1 | refine below_set ?_ (IsS62.ge HI0.out)) | exact HB.out)); rintro e w29 ⟨rfl, hi, hb, hk⟩; refine ⟨_, rfl, ?_⟩; have n0_ := Aside0.mk (KeepBut.trans (by repeat (first | (with_reducible first | exact HK.out | apply KeepBut.set_ | apply keep_drewN | apply keep_drew | apply keep_alloc) | exact HK.out)) hk (.inl rfl)); have n1_ := Aside0.mk (hb); have n2_ := Aside0.mk (hi); clear HK; clear HB; clear HI0; have HK := n0_; have HB := n1_; have HI0 := n2_; clear n0_ n1_ n2_; (try clear hb); (try clear hb2); (try clear hk); (try clear hi)))
                    go_ret
                    exact ⟨by first | rfl | (simp [errW_none, errW_some] <;> rfl) | (simp [*, errW_none, errW_some] <;> rfl), by repeat (first | (with_reducible first | exact HI0.out | apply IsS62.alloc | apply IsS62.drewN | apply IsS62.drew | apply IsS62.set_0 | apply IsS62.set_1 | apply IsS62.set_2 | apply IsS62.set_3 | apply IsS62.set_4 | apply IsS62.set_5) | exact HI0.out), by repeat (first | (with_reducible first | exact HB.out | apply below_alloc | apply pw_below_drewN | apply below_drew1 | refine below_set ?_ (IsS62.ge HI0.out)) | exact HB.out), by repeat (first | (with_reducible first | exact HK.out | apply KeepBut.set_ | apply keep_drewN | apply keep_drew | apply keep_alloc) | exact HK.out)⟩
                  · rw [if_neg c27] at H
                    have c27b0 : (a1 == 8) = false := beq_eq_false_iff_ne.mpr c27
                    have c27b1 : (a1 != 8) = true := bne_iff_ne.mpr c27
                    by_cases c30 : a1 = 9
                    · rw [if_pos c30] at H
                      have c30b0 : (a1 == 9) = true := beq_iff_eq.mpr c30
                      have c30b1 : (a1 != 9) = false := bne_eq_false_iff_eq.mpr c30
                      clear c30
                      replace H := Option.bind_eq_some_iff.mp H
                      obtain ⟨⟨t420, t421, t422, t423, t424, t425, t426⟩, A310, H⟩ := H
                      replace H : (some (t420, t421, t422, t423, t424, t425, t426)) = some (r1, r2, r3, r4, r5, r6, r7) := H
                      have A31 := Aside0.mk A310
                      clear A310
                      simp only [Option.some.injEq, Prod.mk.injEq] at H
                      obtain ⟨rfl, rfl, rfl, rfl, rfl, rfl, rfl⟩ := H
                      go_enter Try.func40, Try.ntmps40
                      go_wp2_with (first | ((with_reducible refine gate_callee (f := 56) rfl ?_); refine goesL_ (some 45) rfl rfl Try.func56 (by kernel_rfl) rfl #[.pointer (some ⟨g, 0, none⟩)] rfl (by (try simp only [List.map_toArray, List.map_cons, List.map_nil]); first | done | rfl | (simp only [List.length_drop, List.length_take]; rfl)) ?_; (with_reducible refine (life_Life_Fall.calls k g s0_0 s0_1 s0_2 s0_3 s0_4 s0_5 t420 t421 t422 t423 t424 t425 t426 w0 _ ?side1 ?side2 A31.out).mono ?_); (case side1 => repeat (first | (with_reducible first | exact HI0.out | apply IsS62.alloc | apply IsS62.drewN | apply IsS62.drew | apply IsS62.set_0 | apply IsS62.set_1 | apply IsS62.set_2 | apply IsS62.set_3 | apply IsS62.set_4 | apply IsS62.set_5) | exact HI0.out)); (case side2 => repeat (first | (with_reducible first | exact HB.out | apply below_alloc | apply pw_below_drewN | apply below_drew1 | refine below_set ?_ (IsS62.ge HI0.out)) | exact HB.out)); rintro e w32 ⟨rfl, hi, hb, hk⟩; refine ⟨_, rfl, ?_⟩; have n0_ := Aside0.mk (KeepBut.trans (by repeat (first | (with_reducible first | exact HK.out | apply KeepBut.set_ | apply keep_drewN | apply keep_drew | apply keep_alloc) | exact HK.out)) hk (.inl rfl)); have n1_ := Aside0.mk (hb); have n2_ := Aside0.mk (hi); clear HK; clear HB; clear HI0; have HK := n0_; have HB := n1_; have HI0 := n2_; clear n0_ n1_ n2_; (try clear hb); (try clear hb2); (try clear hk); (try clear hi)))
                      go_ret
                      exact ⟨by first | rfl | (simp [errW_none, errW_some] <;> rfl) | (simp [*, errW_none, errW_some] <;> rfl), by repeat (first | (with_reducible first | exact HI0.out | apply IsS62.alloc | apply IsS62.drewN | apply IsS62.drew | apply IsS62.set_0 | apply IsS62.set_1 | apply IsS62.set_2 | apply IsS62.set_3 | apply IsS62.set_4 | apply IsS62.set_5) | exact HI0.out), by repeat (first | (with_reducible first | exact HB.out | apply below_alloc | apply pw_below_drewN | apply below_drew1 | refine below_set ?_ (IsS62.ge HI0.out)) | exact HB.out), by repeat (first | (with_reducible first | exact HK.out | apply KeepBut.set_ | apply keep_drewN | apply keep_drew | apply keep_alloc) | exact HK.out)⟩
                    · rw [if_neg c30] at H
                      have c30b0 : (a1 == 9) = false := beq_eq_false_iff_ne.mpr c30
                      have c30b1 : (a1 != 9) = true := bne_iff_ne.mpr c30
                      replace H := Option.bind_eq_some_iff.mp H
                      obtain ⟨⟨t427, t428, t429, t430, t431, t432, t433⟩, A330, H⟩ := H
                      replace H : (some (t427, t428, t429, t430, t431, t432, t433)) = some (r1, r2, r3, r4, r5, r6, r7) := H
                      have A33 := Aside0.mk A330
                      clear A330
                      simp only [Option.some.injEq, Prod.mk.injEq] at H
                      obtain ⟨rfl, rfl, rfl, rfl, rfl, rfl, rfl⟩ := H
                      go_enter Try.func40, Try.ntmps40
                      go_wp2_with (first | ((with_reducible refine gate_callee (f := 44) rfl ?_); refine goesL_ (some 47) rfl rfl Try.func44 (by kernel_rfl) rfl #[.pointer (some ⟨g, 0, none⟩)] rfl (by (try simp only [List.map_toArray, List.map_cons, List.map_nil]); first | done | rfl | (simp only [List.length_drop, List.length_take]; rfl)) ?_; (with_reducible refine (life_Life_Turn.calls k g s0_0 s0_1 s0_2 s0_3 s0_4 s0_5 t427 t428 t429 t430 t431 t432 t433 w0 _ ?side1 ?side2 A33.out).mono ?_); (case side1 => repeat (first | (with_reducible first | exact HI0.out | apply IsS62.alloc | apply IsS62.drewN | apply IsS62.drew | apply IsS62.set_0 | apply IsS62.set_1 | apply IsS62.set_2 | apply IsS62.set_3 | apply IsS62.set_4 | apply IsS62.set_5) | exact HI0.out)); (case side2 => repeat (first | (with_reducible first | exact HB.out | apply below_alloc | apply pw_below_drewN | apply below_drew1 | refine below_set ?_ (IsS62.ge HI0.out)) | exact HB.out)); rintro e w34 ⟨rfl, hi, hb, hk⟩; refine ⟨_, rfl, ?_⟩; have n0_ := Aside0.mk (KeepBut.trans (by repeat (first | (with_reducible first | exact HK.out | apply KeepBut.set_ | apply keep_drewN | apply keep_drew | apply keep_alloc) | exact HK.out)) hk (.inl rfl)); have n1_ := Aside0.mk (hb); have n2_ := Aside0.mk (hi); clear HK; clear HB; clear HI0; have HK := n0_; have HB := n1_; have HI0 := n2_; clear n0_ n1_ n2_; (try clear hb); (try clear hb2); (try clear hk); (try clear hi)))
                      go_ret
                      exact ⟨by first | rfl | (simp [errW_none, errW_some] <;> rfl) | (simp [*, errW_none, errW_some] <;> rfl), by repeat (first | (with_reducible first | exact HI0.out | apply IsS62.alloc | apply IsS62.drewN | apply IsS62.drew | apply IsS62.set_0 | apply IsS62.set_1 | apply IsS62.set_2 | apply IsS62.set_3 | apply IsS62.set_4 | apply IsS62.set_5) | exact HI0.out), by repeat (first | (with_reducible first | exact HB.out | apply below_alloc | apply pw_below_drewN | apply below_drew1 | refine below_set ?_ (IsS62.ge HI0.out)) | exact HB.out), by repeat (first | (with_reducible first | exact HK.out | apply KeepBut.set_ | apply keep_drewN | apply keep_drew | apply keep_alloc) | exact HK.out)⟩

end Go.Proofs.Ytkldfjlbgmppfab.MLifeBounds
