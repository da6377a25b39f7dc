-- Written by a program of this session out of Lean's own print of the program. Not trusted: Lean checks it.
import Derived.Test.YtkldfjlbgmppfabMLifeTurnsx0
import Derived.Test.YtkldfjlbgmppfabMLifeTurnsx1
import Derived.Test.YtkldfjlbgmppfabMLifeTurnsx2
namespace Go.Proofs.Ytkldfjlbgmppfab.MLifeTurns
open Go.RowKit Go.Proofs.YtkldfjlbgmppfabW.PrintWords Go.Proofs.YtkldfjlbgmppfabW.PrintLast Go.Proofs.YtkldfjlbgmppfabW.PrintMore
attribute [local go_sem] max2_int min2_int max_two min_two max_three min_three max_four min_four   -- for this text's walks alone
set_option linter.unusedVariables false
set_option linter.unusedSimpArgs false

/-! ### millwrightlaw09_does: function 40 -/
def millwrightlaw09_does.f (k : Nat) (s0_0 : Int) (s0_1 : Int) (s0_2 : Int) (s0_3 : Int) (s0_4 : Int) (s0_5 : Int) (a1 : Int) : Option (Int × Int × Int × Int × Int × Int × Int) := if a1 = 0 then ((life_Life_Want.f k s0_0 s0_1 s0_2 s0_3 s0_4 s0_5).bind fun bt357 => (some (bt357.1, bt357.2.1, bt357.2.2.1, bt357.2.2.2.1, bt357.2.2.2.2.1, bt357.2.2.2.2.2.1, bt357.2.2.2.2.2.2))) else (if a1 = 1 then ((life_Life_Start.f k s0_0 s0_1 s0_2 s0_3 s0_4 s0_5).bind fun bt364 => (some (bt364.1, bt364.2.1, bt364.2.2.1, bt364.2.2.2.1, bt364.2.2.2.2.1, bt364.2.2.2.2.2.1, bt364.2.2.2.2.2.2))) else (if a1 = 2 then ((life_Life_Stop.f k s0_0 s0_1 s0_2 s0_3 s0_4 s0_5).bind fun bt371 => (some (bt371.1, bt371.2.1, bt371.2.2.1, bt371.2.2.2.1, bt371.2.2.2.2.1, bt371.2.2.2.2.2.1, bt371.2.2.2.2.2.2))) else (if a1 = 3 then ((life_Life_Wait.f k s0_0 s0_1 s0_2 s0_3 s0_4 s0_5).bind fun bt378 => (some (bt378.1, bt378.2.1, bt378.2.2.1, bt378.2.2.2.1, bt378.2.2.2.2.1, bt378.2.2.2.2.2.1, bt378.2.2.2.2.2.2))) else (if a1 = 4 then ((life_Life_Again.f k s0_0 s0_1 s0_2 s0_3 s0_4 s0_5).bind fun bt385 => (some (bt385.1, bt385.2.1, bt385.2.2.1, bt385.2.2.2.1, bt385.2.2.2.2.1, bt385.2.2.2.2.2.1, bt385.2.2.2.2.2.2))) else (if a1 = 5 then ((life_Life_Wake.f k s0_0 s0_1 s0_2 s0_3 s0_4 s0_5).bind fun bt392 => (some (bt392.1, bt392.2.1, bt392.2.2.1, bt392.2.2.2.1, bt392.2.2.2.2.1, bt392.2.2.2.2.2.1, bt392.2.2.2.2.2.2))) else (if a1 = 6 then ((life_Life_Miss.f k s0_0 s0_1 s0_2 s0_3 s0_4 s0_5).bind fun bt399 => (some (bt399.1, bt399.2.1, bt399.2.2.1, bt399.2.2.2.1, bt399.2.2.2.2.1, bt399.2.2.2.2.2.1, bt399.2.2.2.2.2.2))) else (if a1 = 7 then ((life_Life_Rested.f k s0_0 s0_1 s0_2 s0_3 s0_4 s0_5).bind fun bt406 => (some (bt406.1, bt406.2.1, bt406.2.2.1, bt406.2.2.2.1, bt406.2.2.2.2.1, bt406.2.2.2.2.2.1, bt406.2.2.2.2.2.2))) else (if a1 = 8 then ((life_Life_End.f k s0_0 s0_1 s0_2 s0_3 s0_4 s0_5).bind fun bt413 => (some (bt413.1, bt413.2.1, bt413.2.2.1, bt413.2.2.2.1, bt413.2.2.2.2.1, bt413.2.2.2.2.2.1, bt413.2.2.2.2.2.2))) else (if a1 = 9 then ((life_Life_Fall.f k s0_0 s0_1 s0_2 s0_3 s0_4 s0_5).bind fun bt420 => (some (bt420.1, bt420.2.1, bt420.2.2.1, bt420.2.2.2.1, bt420.2.2.2.2.1, bt420.2.2.2.2.2.1, bt420.2.2.2.2.2.2))) else ((life_Life_Turn.f k s0_0 s0_1 s0_2 s0_3 s0_4 s0_5).bind fun bt427 => (some (bt427.1, bt427.2.1, bt427.2.2.1, bt427.2.2.2.1, bt427.2.2.2.2.1, bt427.2.2.2.2.2.1, bt427.2.2.2.2.2.2))))))))))))
theorem millwrightlaw09_does.mono : ∀ a0 a1 a2 a3 a4 a5 a6 k, LeO (millwrightlaw09_does.f k a0 a1 a2 a3 a4 a5 a6) (millwrightlaw09_does.f (k + 1) a0 a1 a2 a3 a4 a5 a6) := by
  intro a0 a1 a2 a3 a4 a5 a6 k
  unfold millwrightlaw09_does.f
  repeat' first
      | (with_reducible exact life_Life_Again.mono _ _ _ _ _ _ _)
      | (with_reducible exact life_Life_End.mono _ _ _ _ _ _ _)
      | (with_reducible exact life_Life_Fall.mono _ _ _ _ _ _ _)
      | (with_reducible exact life_Life_Miss.mono _ _ _ _ _ _ _)
      | (with_reducible exact life_Life_Rested.mono _ _ _ _ _ _ _)
      | (with_reducible exact life_Life_Start.mono _ _ _ _ _ _ _)
      | (with_reducible exact life_Life_Stop.mono _ _ _ _ _ _ _)
      | (with_reducible exact life_Life_Turn.mono _ _ _ _ _ _ _)
      | (with_reducible exact life_Life_Wait.mono _ _ _ _ _ _ _)
      | (with_reducible exact life_Life_Wake.mono _ _ _ _ _ _ _)
      | (with_reducible exact life_Life_Want.mono _ _ _ _ _ _ _)
      | (with_reducible exact LeO.refl _)
      | (with_reducible exact LeO.none _)
      | (with_reducible refine LeO.ite ?_ ?_)
      | (with_reducible refine LeO.bind ?_ (fun _ => ?_))
      | exact life_Life_Again.mono _ _ _ _ _ _ _
      | exact life_Life_End.mono _ _ _ _ _ _ _
      | exact life_Life_Fall.mono _ _ _ _ _ _ _
      | exact life_Life_Miss.mono _ _ _ _ _ _ _
      | exact life_Life_Rested.mono _ _ _ _ _ _ _
      | exact life_Life_Start.mono _ _ _ _ _ _ _
      | exact life_Life_Stop.mono _ _ _ _ _ _ _
      | exact life_Life_Turn.mono _ _ _ _ _ _ _
      | exact life_Life_Wait.mono _ _ _ _ _ _ _
      | exact life_Life_Wake.mono _ _ _ _ _ _ _
      | exact life_Life_Want.mono _ _ _ _ _ _ _
      | exact LeO.none _
      | refine LeO.ite ?_ ?_
      | refine LeO.bind ?_ (fun _ => ?_)
set_option maxHeartbeats 8000000 in
set_option maxRecDepth 100000 in
theorem millwrightlaw09_does.calls (k : Nat) (g : Nat) (s0_0 : Int) (s0_1 : Int) (s0_2 : Int) (s0_3 : Int) (s0_4 : Int) (s0_5 : Int) (a1 : Int) (r1 : Int) (r2 : Int) (r3 : Int) (r4 : Int) (r5 : Int) (r6 : Int) (r7 : Int) (w0 w : World) (hI : IsS62 w0 w g s0_0 s0_1 s0_2 s0_3 s0_4 s0_5) (hB : Below w0.heap.size w0 w) (h : millwrightlaw09_does.f k s0_0 s0_1 s0_2 s0_3 s0_4 s0_5 a1 = some (r1, r2, r3, r4, r5, r6, r7)) :
    Calls Try.prog 40 #[.pointer (some ⟨g, 0, none⟩), .int .i64 a1] w fun e w' => e = .returned (.int .i64 r1) ∧ IsS62 w0 w' g r2 r3 r4 r5 r6 r7 ∧ Below w0.heap.size w0 w' ∧ KeepBut w w' g none := by
  have HI0 := Aside0.mk hI
  have HK := Aside0.mk (KeepBut.refl w g none)
  have HL := Aside0.mk hB.size
  clear hI
  have HW0 := Aside0.mk hB.size
  have HB := Aside0.mk hB
  clear hB
  have H : (if a1 = 0 then ((life_Life_Want.f k s0_0 s0_1 s0_2 s0_3 s0_4 s0_5).bind fun bt357 => (some (bt357.1, bt357.2.1, bt357.2.2.1, bt357.2.2.2.1, bt357.2.2.2.2.1, bt357.2.2.2.2.2.1, bt357.2.2.2.2.2.2))) else (if a1 = 1 then ((life_Life_Start.f k s0_0 s0_1 s0_2 s0_3 s0_4 s0_5).bind fun bt364 => (some (bt364.1, bt364.2.1, bt364.2.2.1, bt364.2.2.2.1, bt364.2.2.2.2.1, bt364.2.2.2.2.2.1, bt364.2.2.2.2.2.2))) else (if a1 = 2 then ((life_Life_Stop.f k s0_0 s0_1 s0_2 s0_3 s0_4 s0_5).bind fun bt371 => (some (bt371.1, bt371.2.1, bt371.2.2.1, bt371.2.2.2.1, bt371.2.2.2.2.1, bt371.2.2.2.2.2.1, bt371.2.2.2.2.2.2))) else (if a1 = 3 then ((life_Life_Wait.f k s0_0 s0_1 s0_2 s0_3 s0_4 s0_5).bind fun bt378 => (some (bt378.1, bt378.2.1, bt378.2.2.1, bt378.2.2.2.1, bt378.2.2.2.2.1, bt378.2.2.2.2.2.1, bt378.2.2.2.2.2.2))) else (if a1 = 4 then ((life_Life_Again.f k s0_0 s0_1 s0_2 s0_3 s0_4 s0_5).bind fun bt385 => (some (bt385.1, bt385.2.1, bt385.2.2.1, bt385.2.2.2.1, bt385.2.2.2.2.1, bt385.2.2.2.2.2.1, bt385.2.2.2.2.2.2))) else (if a1 = 5 then ((life_Life_Wake.f k s0_0 s0_1 s0_2 s0_3 s0_4 s0_5).bind fun bt392 => (some (bt392.1, bt392.2.1, bt392.2.2.1, bt392.2.2.2.1, bt392.2.2.2.2.1, bt392.2.2.2.2.2.1, bt392.2.2.2.2.2.2))) else (if a1 = 6 then ((life_Life_Miss.f k s0_0 s0_1 s0_2 s0_3 s0_4 s0_5).bind fun bt399 => (some (bt399.1, bt399.2.1, bt399.2.2.1, bt399.2.2.2.1, bt399.2.2.2.2.1, bt399.2.2.2.2.2.1, bt399.2.2.2.2.2.2))) else (if a1 = 7 then ((life_Life_Rested.f k s0_0 s0_1 s0_2 s0_3 s0_4 s0_5).bind fun bt406 => (some (bt406.1, bt406.2.1, bt406.2.2.1, bt406.2.2.2.1, bt406.2.2.2.2.1, bt406.2.2.2.2.2.1, bt406.2.2.2.2.2.2))) else (if a1 = 8 then ((life_Life_End.f k s0_0 s0_1 s0_2 s0_3 s0_4 s0_5).bind fun bt413 => (some (bt413.1, bt413.2.1, bt413.2.2.1, bt413.2.2.2.1, bt413.2.2.2.2.1, bt413.2.2.2.2.2.1, bt413.2.2.2.2.2.2))) else (if a1 = 9 then ((life_Life_Fall.f k s0_0 s0_1 s0_2 s0_3 s0_4 s0_5).bind fun bt420 => (some (bt420.1, bt420.2.1, bt420.2.2.1, bt420.2.2.2.1, bt420.2.2.2.2.1, bt420.2.2.2.2.2.1, bt420.2.2.2.2.2.2))) else ((life_Life_Turn.f k s0_0 s0_1 s0_2 s0_3 s0_4 s0_5).bind fun bt427 => (some (bt427.1, bt427.2.1, bt427.2.2.1, bt427.2.2.2.1, bt427.2.2.2.2.1, bt427.2.2.2.2.2.1, bt427.2.2.2.2.2.2))))))))))))) = some (r1, r2, r3, r4, r5, r6, r7) := h
  clear h
  by_cases c3 : a1 = 0
  · rw [if_pos c3] at H
    have c3b0 : (a1 == 0) = true := beq_iff_eq.mpr c3
    have c3b1 : (a1 != 0) = false := bne_eq_false_iff_eq.mpr c3
    clear c3
    replace H := Option.bind_eq_some_iff.mp H
    obtain ⟨⟨t357, t358, t359, t360, t361, t362, t363⟩, A40, H⟩ := H
    replace H : (some (t357, t358, t359, t360, t361, t362, t363)) = some (r1, r2, r3, r4, r5, r6, r7) := H
    have A4 := Aside0.mk A40
    clear A40
    simp only [Option.some.injEq, Prod.mk.injEq] at H
    obtain ⟨rfl, rfl, rfl, rfl, rfl, rfl, rfl⟩ := H
    go_enter Try.func40, Try.ntmps40
    go_wp2_with (first | ((with_reducible refine gate_callee (f := 17) rfl ?_); refine goesL_ (some 9) rfl rfl Try.func17 (by kernel_rfl) rfl #[.pointer (some ⟨g, 0, none⟩)] rfl (by (try simp only [List.map_toArray, List.map_cons, List.map_nil]); first | done | rfl | (simp only [List.length_drop, List.length_take]; rfl)) ?_; (with_reducible refine (life_Life_Want.calls k g s0_0 s0_1 s0_2 s0_3 s0_4 s0_5 t357 t358 t359 t360 t361 t362 t363 w0 _ ?side1 ?side2 A4.out).mono ?_); (case side1 => repeat (first | (with_reducible first | exact HI0.out | apply IsS62.alloc | apply IsS62.drewN | apply IsS62.drew | apply IsS62.set_0 | apply IsS62.set_1 | apply IsS62.set_2 | apply IsS62.set_3 | apply IsS62.set_4 | apply IsS62.set_5) | exact HI0.out)); (case side2 => repeat (first | (with_reducible first | exact HB.out | apply below_alloc | apply pw_below_drewN | apply below_drew1 | refine below_set ?_ (IsS62.ge HI0.out)) | exact HB.out)); rintro e w5 ⟨rfl, hi, hb, hk⟩; refine ⟨_, rfl, ?_⟩; have n0_ := Aside0.mk (KeepBut.trans (by repeat (first | (with_reducible first | exact HK.out | apply KeepBut.set_ | apply keep_drewN | apply keep_drew | apply keep_alloc) | exact HK.out)) hk (.inl rfl)); have n1_ := Aside0.mk (hb); have n2_ := Aside0.mk (hi); clear HK; clear HB; clear HI0; have HK := n0_; have HB := n1_; have HI0 := n2_; clear n0_ n1_ n2_; (try clear hb); (try clear hb2); (try clear hk); (try clear hi)))
    go_ret
    exact ⟨by first | rfl | (simp [errW_none, errW_some] <;> rfl) | (simp [*, errW_none, errW_some] <;> rfl), by repeat (first | (with_reducible first | exact HI0.out | apply IsS62.alloc | apply IsS62.drewN | apply IsS62.drew | apply IsS62.set_0 | apply IsS62.set_1 | apply IsS62.set_2 | apply IsS62.set_3 | apply IsS62.set_4 | apply IsS62.set_5) | exact HI0.out), by repeat (first | (with_reducible first | exact HB.out | apply below_alloc | apply pw_below_drewN | apply below_drew1 | refine below_set ?_ (IsS62.ge HI0.out)) | exact HB.out), by repeat (first | (with_reducible first | exact HK.out | apply KeepBut.set_ | apply keep_drewN | apply keep_drew | apply keep_alloc) | exact HK.out)⟩
  · rw [if_neg c3] at H
    have c3b0 : (a1 == 0) = false := beq_eq_false_iff_ne.mpr c3
    have c3b1 : (a1 != 0) = true := bne_iff_ne.mpr c3
    by_cases c6 : a1 = 1
    · rw [if_pos c6] at H
      have c6b0 : (a1 == 1) = true := beq_iff_eq.mpr c6
      have c6b1 : (a1 != 1) = false := bne_eq_false_iff_eq.mpr c6
      clear c6
      replace H := Option.bind_eq_some_iff.mp H
      obtain ⟨⟨t364, t365, t366, t367, t368, t369, t370⟩, A70, H⟩ := H
      replace H : (some (t364, t365, t366, t367, t368, t369, t370)) = some (r1, r2, r3, r4, r5, r6, r7) := H
      have A7 := Aside0.mk A70
      clear A70
      simp only [Option.some.injEq, Prod.mk.injEq] at H
      obtain ⟨rfl, rfl, rfl, rfl, rfl, rfl, rfl⟩ := H
      go_enter Try.func40, Try.ntmps40
      go_wp2_with (first | ((with_reducible refine gate_callee (f := 18) rfl ?_); refine goesL_ (some 13) rfl rfl Try.func18 (by kernel_rfl) rfl #[.pointer (some ⟨g, 0, none⟩)] rfl (by (try simp only [List.map_toArray, List.map_cons, List.map_nil]); first | done | rfl | (simp only [List.length_drop, List.length_take]; rfl)) ?_; (with_reducible refine (life_Life_Start.calls k g s0_0 s0_1 s0_2 s0_3 s0_4 s0_5 t364 t365 t366 t367 t368 t369 t370 w0 _ ?side1 ?side2 A7.out).mono ?_); (case side1 => repeat (first | (with_reducible first | exact HI0.out | apply IsS62.alloc | apply IsS62.drewN | apply IsS62.drew | apply IsS62.set_0 | apply IsS62.set_1 | apply IsS62.set_2 | apply IsS62.set_3 | apply IsS62.set_4 | apply IsS62.set_5) | exact HI0.out)); (case side2 => repeat (first | (with_reducible first | exact HB.out | apply below_alloc | apply pw_below_drewN | apply below_drew1 | refine below_set ?_ (IsS62.ge HI0.out)) | exact HB.out)); rintro e w8 ⟨rfl, hi, hb, hk⟩; refine ⟨_, rfl, ?_⟩; have n0_ := Aside0.mk (KeepBut.trans (by repeat (first | (with_reducible first | exact HK.out | apply KeepBut.set_ | apply keep_drewN | apply keep_drew | apply keep_alloc) | exact HK.out)) hk (.inl rfl)); have n1_ := Aside0.mk (hb); have n2_ := Aside0.mk (hi); clear HK; clear HB; clear HI0; have HK := n0_; have HB := n1_; have HI0 := n2_; clear n0_ n1_ n2_; (try clear hb); (try clear hb2); (try clear hk); (try clear hi)))
      go_ret
      exact ⟨by first | rfl | (simp [errW_none, errW_some] <;> rfl) | (simp [*, errW_none, errW_some] <;> rfl), by repeat (first | (with_reducible first | exact HI0.out | apply IsS62.alloc | apply IsS62.drewN | apply IsS62.drew | apply IsS62.set_0 | apply IsS62.set_1 | apply IsS62.set_2 | apply IsS62.set_3 | apply IsS62.set_4 | apply IsS62.set_5) | exact HI0.out), by repeat (first | (with_reducible first | exact HB.out | apply below_alloc | apply pw_below_drewN | apply below_drew1 | refine below_set ?_ (IsS62.ge HI0.out)) | exact HB.out), by repeat (first | (with_reducible first | exact HK.out | apply KeepBut.set_ | apply keep_drewN | apply keep_drew | apply keep_alloc) | exact HK.out)⟩
    · rw [if_neg c6] at H
      have c6b0 : (a1 == 1) = false := beq_eq_false_iff_ne.mpr c6
      have c6b1 : (a1 != 1) = true := bne_iff_ne.mpr c6
      by_cases c9 : a1 = 2
      · rw [if_pos c9] at H
        have c9b0 : (a1 == 2) = true := beq_iff_eq.mpr c9
        have c9b1 : (a1 != 2) = false := bne_eq_false_iff_eq.mpr c9
        clear c9
        replace H := Option.bind_eq_some_iff.mp H
        obtain ⟨⟨t371, t372, t373, t374, t375, t376, t377⟩, A100, H⟩ := H
        replace H : (some (t371, t372, t373, t374, t375, t376, t377)) = some (r1, r2, r3, r4, r5, r6, r7) := H
        have A10 := Aside0.mk A100
        clear A100
        simp only [Option.some.injEq, Prod.mk.injEq] at H
        obtain ⟨rfl, rfl, rfl, rfl, rfl, rfl, rfl⟩ := H
        go_enter Try.func40, Try.ntmps40
        go_wp2_with (first | ((with_reducible refine gate_callee (f := 19) rfl ?_); refine goesL_ (some 17) rfl rfl Try.func19 (by kernel_rfl) rfl #[.pointer (some ⟨g, 0, none⟩)] rfl (by (try simp only [List.map_toArray, List.map_cons, List.map_nil]); first | done | rfl | (simp only [List.length_drop, List.length_take]; rfl)) ?_; (with_reducible refine (life_Life_Stop.calls k g s0_0 s0_1 s0_2 s0_3 s0_4 s0_5 t371 t372 t373 t374 t375 t376 t377 w0 _ ?side1 ?side2 A10.out).mono ?_); (case side1 => repeat (first | (with_reducible first | exact HI0.out | apply IsS62.alloc | apply IsS62.drewN | apply IsS62.drew | apply IsS62.set_0 | apply IsS62.set_1 | apply IsS62.set_2 | apply IsS62.set_3 | apply IsS62.set_4 | apply IsS62.set_5) | exact HI0.out)); (case side2 => repeat (first | (with_reducible first | exact HB.out | apply below_alloc | apply pw_below_drewN | apply below_drew1 | refine below_set ?_ (IsS62.ge HI0.out)) | exact HB.out)); rintro e w11 ⟨rfl, hi, hb, hk⟩; refine ⟨_, rfl, ?_⟩; have n0_ := Aside0.mk (KeepBut.trans (by repeat (first | (with_reducible first | exact HK.out | apply KeepBut.set_ | apply keep_drewN | apply keep_drew | apply keep_alloc) | exact HK.out)) hk (.inl rfl)); have n1_ := Aside0.mk (hb); have n2_ := Aside0.mk (hi); clear HK; clear HB; clear HI0; have HK := n0_; have HB := n1_; have HI0 := n2_; clear n0_ n1_ n2_; (try clear hb); (try clear hb2); (try clear hk); (try clear hi)))
        go_ret
        exact ⟨by first | rfl | (simp [errW_none, errW_some] <;> rfl) | (simp [*, errW_none, errW_some] <;> rfl), by repeat (first | (with_reducible first | exact HI0.out | apply IsS62.alloc | apply IsS62.drewN | apply IsS62.drew | apply IsS62.set_0 | apply IsS62.set_1 | apply IsS62.set_2 | apply IsS62.set_3 | apply IsS62.set_4 | apply IsS62.set_5) | exact HI0.out), by repeat (first | (with_reducible first | exact HB.out | apply below_alloc | apply pw_below_drewN | apply below_drew1 | refine below_set ?_ (IsS62.ge HI0.out)) | exact HB.out), by repeat (first | (with_reducible first | exact HK.out | apply KeepBut.set_ | apply keep_drewN | apply keep_drew | apply keep_alloc) | exact HK.out)⟩
      · rw [if_neg c9] at H
        have c9b0 : (a1 == 2) = false := beq_eq_false_iff_ne.mpr c9
        have c9b1 : (a1 != 2) = true := bne_iff_ne.mpr c9
        by_cases c12 : a1 = 3
        · rw [if_pos c12] at H
          have c12b0 : (a1 == 3) = true := beq_iff_eq.mpr c12
          have c12b1 : (a1 != 3) = false := bne_eq_false_iff_eq.mpr c12
          clear c12
          replace H := Option.bind_eq_some_iff.mp H
          obtain ⟨⟨t378, t379, t380, t381, t382, t383, t384⟩, A130, H⟩ := H
          replace H : (some (t378, t379, t380, t381, t382, t383, t384)) = some (r1, r2, r3, r4, r5, r6, r7) := H
          have A13 := Aside0.mk A130
          clear A130
          simp only [Option.some.injEq, Prod.mk.injEq] at H
          obtain ⟨rfl, rfl, rfl, rfl, rfl, rfl, rfl⟩ := H
          go_enter Try.func40, Try.ntmps40
          go_wp2_with (first | ((with_reducible refine gate_callee (f := 52) rfl ?_); refine goesL_ (some 21) rfl rfl Try.func52 (by kernel_rfl) rfl #[.pointer (some ⟨g, 0, none⟩)] rfl (by (try simp only [List.map_toArray, List.map_cons, List.map_nil]); first | done | rfl | (simp only [List.length_drop, List.length_take]; rfl)) ?_; (with_reducible refine (life_Life_Wait.calls k g s0_0 s0_1 s0_2 s0_3 s0_4 s0_5 t378 t379 t380 t381 t382 t383 t384 w0 _ ?side1 ?side2 A13.out).mono ?_); (case side1 => repeat (first | (with_reducible first | exact HI0.out | apply IsS62.alloc | apply IsS62.drewN | apply IsS62.drew | apply IsS62.set_0 | apply IsS62.set_1 | apply IsS62.set_2 | apply IsS62.set_3 | apply IsS62.set_4 | apply IsS62.set_5) | exact HI0.out)); (case side2 => repeat (first | (with_reducible first | exact HB.out | apply below_alloc | apply pw_below_drewN | apply below_drew1 | refine below_set ?_ (IsS62.ge HI0.out)) | exact HB.out)); rintro e w14 ⟨rfl, hi, hb, hk⟩; refine ⟨_, rfl, ?_⟩; have n0_ := Aside0.mk (KeepBut.trans (by repeat (first | (with_reducible first | exact HK.out | apply KeepBut.set_ | apply keep_drewN | apply keep_drew | apply keep_alloc) | exact HK.out)) hk (.inl rfl)); have n1_ := Aside0.mk (hb); have n2_ := Aside0.mk (hi); clear HK; clear HB; clear HI0; have HK := n0_; have HB := n1_; have HI0 := n2_; clear n0_ n1_ n2_; (try clear hb); (try clear hb2); (try clear hk); (try clear hi)))
          go_ret
          exact ⟨by first | rfl | (simp [errW_none, errW_some] <;> rfl) | (simp [*, errW_none, errW_some] <;> rfl), by repeat (first | (with_reducible first | exact HI0.out | apply IsS62.alloc | apply IsS62.drewN | apply IsS62.drew | apply IsS62.set_0 | apply IsS62.set_1 | apply IsS62.set_2 | apply IsS62.set_3 | apply IsS62.set_4 | apply IsS62.set_5) | exact HI0.out), by repeat (first | (with_reducible first | exact HB.out | apply below_alloc | apply pw_below_drewN | apply below_drew1 | refine below_set ?_ (IsS62.ge HI0.out)) | exact HB.out), by repeat (first | (with_reducible first | exact HK.out | apply KeepBut.set_ | apply keep_drewN | apply keep_drew | apply keep_alloc) | exact HK.out)⟩
        · rw [if_neg c12] at H
          have c12b0 : (a1 == 3) = false := beq_eq_false_iff_ne.mpr c12
          have c12b1 : (a1 != 3) = true := bne_iff_ne.mpr c12
          by_cases c15 : a1 = 4
          · rw [if_pos c15] at H
            have c15b0 : (a1 == 4) = true := beq_iff_eq.mpr c15
            have c15b1 : (a1 != 4) = false := bne_eq_false_iff_eq.mpr c15
            clear c15
            replace H := Option.bind_eq_some_iff.mp H
            obtain ⟨⟨t385, t386, t387, t388, t389, t390, t391⟩, A160, H⟩ := H
            replace H : (some (t385, t386, t387, t388, t389, t390, t391)) = some (r1, r2, r3, r4, r5, r6, r7) := H
            have A16 := Aside0.mk A160
            clear A160
            simp only [Option.some.injEq, Prod.mk.injEq] at H
            obtain ⟨rfl, rfl, rfl, rfl, rfl, rfl, rfl⟩ := H
            go_enter Try.func40, Try.ntmps40
            go_wp2_with (first | ((with_reducible refine gate_callee (f := 53) rfl ?_); refine goesL_ (some 25) rfl rfl Try.func53 (by kernel_rfl) rfl #[.pointer (some ⟨g, 0, none⟩)] rfl (by (try simp only [List.map_toArray, List.map_cons, List.map_nil]); first | done | rfl | (simp only [List.length_drop, List.length_take]; rfl)) ?_; (with_reducible refine (life_Life_Again.calls k g s0_0 s0_1 s0_2 s0_3 s0_4 s0_5 t385 t386 t387 t388 t389 t390 t391 w0 _ ?side1 ?side2 A16.out).mono ?_); (case side1 => repeat (first | (with_reducible first | exact HI0.out | apply IsS62.alloc | apply IsS62.drewN | apply IsS62.drew | apply IsS62.set_0 | apply IsS62.set_1 | apply IsS62.set_2 | apply IsS62.set_3 | apply IsS62.set_4 | apply IsS62.set_5) | exact HI0.out)); (case side2 => repeat (first | (with_reducible first | exact HB.out | apply below_alloc | apply pw_below_drewN | apply below_drew1 | refine below_set ?_ (IsS62.ge HI0.out)) | exact HB.out)); rintro e w17 ⟨rfl, hi, hb, hk⟩; refine ⟨_, rfl, ?_⟩; have n0_ := Aside0.mk (KeepBut.trans (by repeat (first | (with_reducible first | exact HK.out | apply KeepBut.set_ | apply keep_drewN | apply keep_drew | apply keep_alloc) | exact HK.out)) hk (.inl rfl)); have n1_ := Aside0.mk (hb); have n2_ := Aside0.mk (hi); clear HK; clear HB; clear HI0; have HK := n0_; have HB := n1_; have HI0 := n2_; clear n0_ n1_ n2_; (try clear hb); (try clear hb2); (try clear hk); (try clear hi)))
            go_ret
            exact ⟨by first | rfl | (simp [errW_none, errW_some] <;> rfl) | (simp [*, errW_none, errW_some] <;> rfl), by repeat (first | (with_reducible first | exact HI0.out | apply IsS62.alloc | apply IsS62.drewN | apply IsS62.drew | apply IsS62.set_0 | apply IsS62.set_1 | apply IsS62.set_2 | apply IsS62.set_3 | apply IsS62.set_4 | apply IsS62.set_5) | exact HI0.out), by repeat (first | (with_reducible first | exact HB.out | apply below_alloc | apply pw_below_drewN | apply below_drew1 | refine below_set ?_ (IsS62.ge HI0.out)) | exact HB.out), by repeat (first | (with_reducible first | exact HK.out | apply KeepBut.set_ | apply keep_drewN | apply keep_drew | apply keep_alloc) | exact HK.out)⟩
          · rw [if_neg c15] at H
            have c15b0 : (a1 == 4) = false := beq_eq_false_iff_ne.mpr c15
            have c15b1 : (a1 != 4) = true := bne_iff_ne.mpr c15
            by_cases c18 : a1 = 5
            · rw [if_pos c18] at H
              have c18b0 : (a1 == 5) = true := beq_iff_eq.mpr c18
              have c18b1 : (a1 != 5) = false := bne_eq_false_iff_eq.mpr c18
              clear c18
              replace H := Option.bind_eq_some_iff.mp H
              obtain ⟨⟨t392, t393, t394, t395, t396, t397, t398⟩, A190, H⟩ := H
              replace H : (some (t392, t393, t394, t395, t396, t397, t398)) = some (r1, r2, r3, r4, r5, r6, r7) := H
              have A19 := Aside0.mk A190
              clear A190
              simp only [Option.some.injEq, Prod.mk.injEq] at H
              obtain ⟨rfl, rfl, rfl, rfl, rfl, rfl, rfl⟩ := H
              go_enter Try.func40, Try.ntmps40
              go_wp2_with (first | ((with_reducible refine gate_callee (f := 54) rfl ?_); refine goesL_ (some 29) rfl rfl Try.func54 (by kernel_rfl) rfl #[.pointer (some ⟨g, 0, none⟩)] rfl (by (try simp only [List.map_toArray, List.map_cons, List.map_nil]); first | done | rfl | (simp only [List.length_drop, List.length_take]; rfl)) ?_; (with_reducible refine (life_Life_Wake.calls k g s0_0 s0_1 s0_2 s0_3 s0_4 s0_5 t392 t393 t394 t395 t396 t397 t398 w0 _ ?side1 ?side2 A19.out).mono ?_); (case side1 => repeat (first | (with_reducible first | exact HI0.out | apply IsS62.alloc | apply IsS62.drewN | apply IsS62.drew | apply IsS62.set_0 | apply IsS62.set_1 | apply IsS62.set_2 | apply IsS62.set_3 | apply IsS62.set_4 | apply IsS62.set_5) | exact HI0.out)); (case side2 => repeat (first | (with_reducible first | exact HB.out | apply below_alloc | apply pw_below_drewN | apply below_drew1 | refine below_set ?_ (IsS62.ge HI0.out)) | exact HB.out)); rintro e w20 ⟨rfl, hi, hb, hk⟩; refine ⟨_, rfl, ?_⟩; have n0_ := Aside0.mk (KeepBut.trans (by repeat (first | (with_reducible first | exact HK.out | apply KeepBut.set_ | apply keep_drewN | apply keep_drew | apply keep_alloc) | exact HK.out)) hk (.inl rfl)); have n1_ := Aside0.mk (hb); have n2_ := Aside0.mk (hi); clear HK; clear HB; clear HI0; have HK := n0_; have HB := n1_; have HI0 := n2_; clear n0_ n1_ n2_; (try clear hb); (try clear hb2); (try clear hk); (try clear hi)))
              go_ret
              exact ⟨by first | rfl | (simp [errW_none, errW_some] <;> rfl) | (simp [*, errW_none, errW_some] <;> rfl), by repeat (first | (with_reducible first | exact HI0.out | apply IsS62.alloc | apply IsS62.drewN | apply IsS62.drew | apply IsS62.set_0 | apply IsS62.set_1 | apply IsS62.set_2 | apply IsS62.set_3 | apply IsS62.set_4 | apply IsS62.set_5) | exact HI0.out), by repeat (first | (with_reducible first | exact HB.out | apply below_alloc | apply pw_below_drewN | apply below_drew1 | refine below_set ?_ (IsS62.ge HI0.out)) | exact HB.out), by repeat (first | (with_reducible first | exact HK.out | apply KeepBut.set_ | apply keep_drewN | apply keep_drew | apply keep_alloc) | exact HK.out)⟩
            · rw [if_neg c18] at H
              have c18b0 : (a1 == 5) = false := beq_eq_false_iff_ne.mpr c18
              have c18b1 : (a1 != 5) = true := bne_iff_ne.mpr c18
              by_cases c21 : a1 = 6
              · rw [if_pos c21] at H
                have c21b0 : (a1 == 6) = true := beq_iff_eq.mpr c21
                have c21b1 : (a1 != 6) = false := bne_eq_false_iff_eq.mpr c21
                clear c21
                replace H := Option.bind_eq_some_iff.mp H
                obtain ⟨⟨t399, t400, t401, t402, t403, t404, t405⟩, A220, H⟩ := H
                replace H : (some (t399, t400, t401, t402, t403, t404, t405)) = some (r1, r2, r3, r4, r5, r6, r7) := H
                have A22 := Aside0.mk A220
                clear A220
                simp only [Option.some.injEq, Prod.mk.injEq] at H
                obtain ⟨rfl, rfl, rfl, rfl, rfl, rfl, rfl⟩ := H
                go_enter Try.func40, Try.ntmps40
                go_wp2_with (first | ((with_reducible refine gate_callee (f := 45) rfl ?_); refine goesL_ (some 33) rfl rfl Try.func45 (by kernel_rfl) rfl #[.pointer (some ⟨g, 0, none⟩)] rfl (by (try simp only [List.map_toArray, List.map_cons, List.map_nil]); first | done | rfl | (simp only [List.length_drop, List.length_take]; rfl)) ?_; (with_reducible refine (life_Life_Miss.calls k g s0_0 s0_1 s0_2 s0_3 s0_4 s0_5 t399 t400 t401 t402 t403 t404 t405 w0 _ ?side1 ?side2 A22.out).mono ?_); (case side1 => repeat (first | (with_reducible first | exact HI0.out | apply IsS62.alloc | apply IsS62.drewN | apply IsS62.drew | apply IsS62.set_0 | apply IsS62.set_1 | apply IsS62.set_2 | apply IsS62.set_3 | apply IsS62.set_4 | apply IsS62.set_5) | exact HI0.out)); (case side2 => repeat (first | (with_reducible first | exact HB.out | apply below_alloc | apply pw_below_drewN | apply below_drew1 | refine below_set ?_ (IsS62.ge HI0.out)) | exact HB.out)); rintro e w23 ⟨rfl, hi, hb, hk⟩; refine ⟨_, rfl, ?_⟩; have n0_ := Aside0.mk (KeepBut.trans (by repeat (first | (with_reducible first | exact HK.out | apply KeepBut.set_ | apply keep_drewN | apply keep_drew | apply keep_alloc) | exact HK.out)) hk (.inl rfl)); have n1_ := Aside0.mk (hb); have n2_ := Aside0.mk (hi); clear HK; clear HB; clear HI0; have HK := n0_; have HB := n1_; have HI0 := n2_; clear n0_ n1_ n2_; (try clear hb); (try clear hb2); (try clear hk); (try clear hi)))
                go_ret
                exact ⟨by first | rfl | (simp [errW_none, errW_some] <;> rfl) | (simp [*, errW_none, errW_some] <;> rfl), by repeat (first | (with_reducible first | exact HI0.out | apply IsS62.alloc | apply IsS62.drewN | apply IsS62.drew | apply IsS62.set_0 | apply IsS62.set_1 | apply IsS62.set_2 | apply IsS62.set_3 | apply IsS62.set_4 | apply IsS62.set_5) | exact HI0.out), by repeat (first | (with_reducible first | exact HB.out | apply below_alloc | apply pw_below_drewN | apply below_drew1 | refine below_set ?_ (IsS62.ge HI0.out)) | exact HB.out), by repeat (first | (with_reducible first | exact HK.out | apply KeepBut.set_ | apply keep_drewN | apply keep_drew | apply keep_alloc) | exact HK.out)⟩
              · rw [if_neg c21] at H
                have c21b0 : (a1 == 6) = false := beq_eq_false_iff_ne.mpr c21
                have c21b1 : (a1 != 6) = true := bne_iff_ne.mpr c21
                by_cases c24 : a1 = 7
                · rw [if_pos c24] at H
                  have c24b0 : (a1 == 7) = true := beq_iff_eq.mpr c24
                  have c24b1 : (a1 != 7) = false := bne_eq_false_iff_eq.mpr c24
                  clear c24
                  replace H := Option.bind_eq_some_iff.mp H
                  obtain ⟨⟨t406, t407, t408, t409, t410, t411, t412⟩, A250, H⟩ := H
                  replace H : (some (t406, t407, t408, t409, t410, t411, t412)) = some (r1, r2, r3, r4, r5, r6, r7) := H
                  have A25 := Aside0.mk A250
                  clear A250
                  simp only [Option.some.injEq, Prod.mk.injEq] at H
                  obtain ⟨rfl, rfl, rfl, rfl, rfl, rfl, rfl⟩ := H
                  go_enter Try.func40, Try.ntmps40
                  go_wp2_with (first | ((with_reducible refine gate_callee (f := 46) rfl ?_); refine goesL_ (some 37) rfl rfl Try.func46 (by kernel_rfl) rfl #[.pointer (some ⟨g, 0, none⟩)] rfl (by (try simp only [List.map_toArray, List.map_cons, List.map_nil]); first | done | rfl | (simp only [List.length_drop, List.length_take]; rfl)) ?_; (with_reducible refine (life_Life_Rested.calls k g s0_0 s0_1 s0_2 s0_3 s0_4 s0_5 t406 t407 t408 t409 t410 t411 t412 w0 _ ?side1 ?side2 A25.out).mono ?_); (case side1 => repeat (first | (with_reducible first | exact HI0.out | apply IsS62.alloc | apply IsS62.drewN | apply IsS62.drew | apply IsS62.set_0 | apply IsS62.set_1 | apply IsS62.set_2 | apply IsS62.set_3 | apply IsS62.set_4 | apply IsS62.set_5) | exact HI0.out)); (case side2 => repeat (first | (with_reducible first | exact HB.out | apply below_alloc | apply pw_below_drewN | apply below_drew1 | refine below_set ?_ (IsS62.ge HI0.out)) | exact HB.out)); rintro e w26 ⟨rfl, hi, hb, hk⟩; refine ⟨_, rfl, ?_⟩; have n0_ := Aside0.mk (KeepBut.trans (by repeat (first | (with_reducible first | exact HK.out | apply KeepBut.set_ | apply keep_drewN | apply keep_drew | apply keep_alloc) | exact HK.out)) hk (.inl rfl)); have n1_ := Aside0.mk (hb); have n2_ := Aside0.mk (hi); clear HK; clear HB; clear HI0; have HK := n0_; have HB := n1_; have HI0 := n2_; clear n0_ n1_ n2_; (try clear hb); (try clear hb2); (try clear hk); (try clear hi)))
                  go_ret
                  exact ⟨by first | rfl | (simp [errW_none, errW_some] <;> rfl) | (simp [*, errW_none, errW_some] <;> rfl), by repeat (first | (with_reducible first | exact HI0.out | apply IsS62.alloc | apply IsS62.drewN | apply IsS62.drew | apply IsS62.set_0 | apply IsS62.set_1 | apply IsS62.set_2 | apply IsS62.set_3 | apply IsS62.set_4 | apply IsS62.set_5) | exact HI0.out), by repeat (first | (with_reducible first | exact HB.out | apply below_alloc | apply pw_below_drewN | apply below_drew1 | refine below_set ?_ (IsS62.ge HI0.out)) | exact HB.out), by repeat (first | (with_reducible first | exact HK.out | apply KeepBut.set_ | apply keep_drewN | apply keep_drew | apply keep_alloc) | exact HK.out)⟩
                · rw [if_neg c24] at H
                  have c24b0 : (a1 == 7) = false := beq_eq_false_iff_ne.mpr c24
                  have c24b1 : (a1 != 7) = true := bne_iff_ne.mpr c24
                  by_cases c27 : a1 = 8
                  · rw [if_pos c27] at H
                    have c27b0 : (a1 == 8) = true := beq_iff_eq.mpr c27
                    have c27b1 : (a1 != 8) = false := bne_eq_false_iff_eq.mpr c27
                    clear c27
                    replace H := Option.bind_eq_some_iff.mp H
                    obtain ⟨⟨t413, t414, t415, t416, t417, t418, t419⟩, A280, H⟩ := H
                    replace H : (some (t413, t414, t415, t416, t417, t418, t419)) = some (r1, r2, r3, r4, r5, r6, r7) := H
                    have A28 := Aside0.mk A280
                    clear A280
                    simp only [Option.some.injEq, Prod.mk.injEq] at H
                    obtain ⟨rfl, rfl, rfl, rfl, rfl, rfl, rfl⟩ := H
                    go_enter Try.func40, Try.ntmps40
                    go_wp2_with (first | ((with_reducible refine gate_callee (f := 55) rfl ?_); refine goesL_ (some 41) rfl rfl Try.func55 (by kernel_rfl) rfl #[.pointer (some ⟨g, 0, none⟩)] rfl (by (try simp only [List.map_toArray, List.map_cons, List.map_nil]); first | done | rfl | (simp only [List.length_drop, List.length_take]; rfl)) ?_; (with_reducible refine (life_Life_End.calls k g s0_0 s0_1 s0_2 s0_3 s0_4 s0_5 t413 t414 t415 t416 t417 t418 t419 w0 _ ?side1 ?side2 A28.out).mono ?_); (case side1 => repeat (first | (with_reducible first | exact HI0.out | apply IsS62.alloc | apply IsS62.drewN | apply IsS62.drew | apply IsS62.set_0 | apply IsS62.set_1 | apply IsS62.set_2 | apply IsS62.set_3 | apply IsS62.set_4 | apply IsS62.set_5) | exact HI0.out)); (case side2 => repeat (first | (with_reducible first | exact HB.out | apply below_alloc | apply pw_below_drewN | apply below_drew1 | refine below_set ?_ (IsS62.ge HI0.out)) | exact HB.out)); rintro e w29 ⟨rfl, hi, hb, hk⟩; refine ⟨_, rfl, ?_⟩; have n0_ := Aside0.mk (KeepBut.trans (by repeat (first | (with_reducible first | exact HK.out | apply KeepBut.set_ | apply keep_drewN | apply keep_drew | apply keep_alloc) | exact HK.out)) hk (.inl rfl)); have n1_ := Aside0.mk (hb); have n2_ := Aside0.mk (hi); clear HK; clear HB; clear HI0; have HK := n0_; have HB := n1_; have HI0 := n2_; clear n0_ n1_ n2_; (try clear hb); (try clear hb2); (try clear hk); (try clear hi)))
                    go_ret
                    exact ⟨by first | rfl | (simp [errW_none, errW_some] <;> rfl) | (simp [*, errW_none, errW_some] <;> rfl), by repeat (first | (with_reducible first | exact HI0.out | apply IsS62.alloc | apply IsS62.drewN | apply IsS62.drew | apply IsS62.set_0 | apply IsS62.set_1 | apply IsS62.set_2 | apply IsS62.set_3 | apply IsS62.set_4 | apply IsS62.set_5) | exact HI0.out), by repeat (first | (with_reducible first | exact HB.out | apply below_alloc | apply pw_below_drewN | apply below_drew1 | refine below_set ?_ (IsS62.ge HI0.out)) | exact HB.out), by repeat (first | (with_reducible first | exact HK.out | apply KeepBut.set_ | apply keep_drewN | apply keep_drew | apply keep_alloc) | exact HK.out)⟩
                  · rw [if_neg c27] at H
                    have c27b0 : (a1 == 8) = false := beq_eq_false_iff_ne.mpr c27
                    have c27b1 : (a1 != 8) = true := bne_iff_ne.mpr c27
                    by_cases c30 : a1 = 9
                    · rw [if_pos c30] at H
                      have c30b0 : (a1 == 9) = true := beq_iff_eq.mpr c30
                      have c30b1 : (a1 != 9) = false := bne_eq_false_iff_eq.mpr c30
                      clear c30
                      replace H := Option.bind_eq_some_iff.mp H
                      obtain ⟨⟨t420, t421, t422, t423, t424, t425, t426⟩, A310, H⟩ := H
                      replace H : (some (t420, t421, t422, t423, t424, t425, t426)) = some (r1, r2, r3, r4, r5, r6, r7) := H
                      have A31 := Aside0.mk A310
                      clear A310
                      simp only [Option.some.injEq, Prod.mk.injEq] at H
                      obtain ⟨rfl, rfl, rfl, rfl, rfl, rfl, rfl⟩ := H
                      go_enter Try.func40, Try.ntmps40
                      go_wp2_with (first | ((with_reducible refine gate_callee (f := 56) rfl ?_); refine goesL_ (some 45) rfl rfl Try.func56 (by kernel_rfl) rfl #[.pointer (some ⟨g, 0, none⟩)] rfl (by (try simp only [List.map_toArray, List.map_cons, List.map_nil]); first | done | rfl | (simp only [List.length_drop, List.length_take]; rfl)) ?_; (with_reducible refine (life_Life_Fall.calls k g s0_0 s0_1 s0_2 s0_3 s0_4 s0_5 t420 t421 t422 t423 t424 t425 t426 w0 _ ?side1 ?side2 A31.out).mono ?_); (case side1 => repeat (first | (with_reducible first | exact HI0.out | apply IsS62.alloc | apply IsS62.drewN | apply IsS62.drew | apply IsS62.set_0 | apply IsS62.set_1 | apply IsS62.set_2 | apply IsS62.set_3 | apply IsS62.set_4 | apply IsS62.set_5) | exact HI0.out)); (case side2 => repeat (first | (with_reducible first | exact HB.out | apply below_alloc | apply pw_below_drewN | apply below_drew1 | refine below_set ?_ (IsS62.ge HI0.out)) | exact HB.out)); rintro e w32 ⟨rfl, hi, hb, hk⟩; refine ⟨_, rfl, ?_⟩; have n0_ := Aside0.mk (KeepBut.trans (by repeat (first | (with_reducible first | exact HK.out | apply KeepBut.set_ | apply keep_drewN | apply keep_drew | apply keep_alloc) | exact HK.out)) hk (.inl rfl)); have n1_ := Aside0.mk (hb); have n2_ := Aside0.mk (hi); clear HK; clear HB; clear HI0; have HK := n0_; have HB := n1_; have HI0 := n2_; clear n0_ n1_ n2_; (try clear hb); (try clear hb2); (try clear hk); (try clear hi)))
                      go_ret
                      exact ⟨by first | rfl | (simp [errW_none, errW_some] <;> rfl) | (simp [*, errW_none, errW_some] <;> rfl), by repeat (first | (with_reducible first | exact HI0.out | apply IsS62.alloc | apply IsS62.drewN | apply IsS62.drew | apply IsS62.set_0 | apply IsS62.set_1 | apply IsS62.set_2 | apply IsS62.set_3 | apply IsS62.set_4 | apply IsS62.set_5) | exact HI0.out), by repeat (first | (with_reducible first | exact HB.out | apply below_alloc | apply pw_below_drewN | apply below_drew1 | refine below_set ?_ (IsS62.ge HI0.out)) | exact HB.out), by repeat (first | (with_reducible first | exact HK.out | apply KeepBut.set_ | apply keep_drewN | apply keep_drew | apply keep_alloc) | exact HK.out)⟩
                    · rw [if_neg c30] at H
                      have c30b0 : (a1 == 9) = false := beq_eq_false_iff_ne.mpr c30
                      have c30b1 : (a1 != 9) = true := bne_iff_ne.mpr c30
                      replace H := Option.bind_eq_some_iff.mp H
                      obtain ⟨⟨t427, t428, t429, t430, t431, t432, t433⟩, A330, H⟩ := H
                      replace H : (some (t427, t428, t429, t430, t431, t432, t433)) = some (r1, r2, r3, r4, r5, r6, r7) := H
                      have A33 := Aside0.mk A330
                      clear A330
                      simp only [Option.some.injEq, Prod.mk.injEq] at H
                      obtain ⟨rfl, rfl, rfl, rfl, rfl, rfl, rfl⟩ := H
                      go_enter Try.func40, Try.ntmps40
                      go_wp2_with (first | ((with_reducible refine gate_callee (f := 44) rfl ?_); refine goesL_ (some 47) rfl rfl Try.func44 (by kernel_rfl) rfl #[.pointer (some ⟨g, 0, none⟩)] rfl (by (try simp only [List.map_toArray, List.map_cons, List.map_nil]); first | done | rfl | (simp only [List.length_drop, List.length_take]; rfl)) ?_; (with_reducible refine (life_Life_Turn.calls k g s0_0 s0_1 s0_2 s0_3 s0_4 s0_5 t427 t428 t429 t430 t431 t432 t433 w0 _ ?side1 ?side2 A33.out).mono ?_); (case side1 => repeat (first | (with_reducible first | exact HI0.out | apply IsS62.alloc | apply IsS62.drewN | apply IsS62.drew | apply IsS62.set_0 | apply IsS62.set_1 | apply IsS62.set_2 | apply IsS62.set_3 | apply IsS62.set_4 | apply IsS62.set_5) | exact HI0.out)); (case side2 => repeat (first | (with_reducible first | exact HB.out | apply below_alloc | apply pw_below_drewN | apply below_drew1 | refine below_set ?_ (IsS62.ge HI0.out)) | exact HB.out)); rintro e w34 ⟨rfl, hi, hb, hk⟩; refine ⟨_, rfl, ?_⟩; have n0_ := Aside0.mk (KeepBut.trans (by repeat (first | (with_reducible first | exact HK.out | apply KeepBut.set_ | apply keep_drewN | apply keep_drew | apply keep_alloc) | exact HK.out)) hk (.inl rfl)); have n1_ := Aside0.mk (hb); have n2_ := Aside0.mk (hi); clear HK; clear HB; clear HI0; have HK := n0_; have HB := n1_; have HI0 := n2_; clear n0_ n1_ n2_; (try clear hb); (try clear hb2); (try clear hk); (try clear hi)))
                      go_ret
                      exact ⟨by first | rfl | (simp [errW_none, errW_some] <;> rfl) | (simp [*, errW_none, errW_some] <;> rfl), by repeat (first | (with_reducible first | exact HI0.out | apply IsS62.alloc | apply IsS62.drewN | apply IsS62.drew | apply IsS62.set_0 | apply IsS62.set_1 | apply IsS62.set_2 | apply IsS62.set_3 | apply IsS62.set_4 | apply IsS62.set_5) | exact HI0.out), by repeat (first | (with_reducible first | exact HB.out | apply below_alloc | apply pw_below_drewN | apply below_drew1 | refine below_set ?_ (IsS62.ge HI0.out)) | exact HB.out), by repeat (first | (with_reducible first | exact HK.out | apply KeepBut.set_ | apply keep_drewN | apply keep_drew | apply keep_alloc) | exact HK.out)⟩

/-! ### millwrightlaw09_LifeTurns: function 14 -/
mutual
def millwrightlaw09_LifeTurns.j1 : Nat → Bool → Int → Int → Int → Int → Int → Int → Option (Bool)
  | 0, _, _, _, _, _, _, _ => none
  | k + 1, x7, x442000, x442001, x442002, x442003, x442004, x442005 => (life_Life_Final.f x442000 x442001 x442002 x442003 x442004 x442005).bind fun bt450 => ((life_Life_State.f bt450.2.1 bt450.2.2.1 bt450.2.2.2.1 bt450.2.2.2.2.1 bt450.2.2.2.2.2.1 bt450.2.2.2.2.2.2).bind fun bt457 => ((life_Life_Turn.f k bt457.2.1 bt457.2.2.1 bt457.2.2.2.1 bt457.2.2.2.2.1 bt457.2.2.2.2.2.1 bt457.2.2.2.2.2.2).bind fun bt464 => (if bt450.1 = true then (if x7 = true then (if bt464.1 = 8 then ((life_Life_State.f bt464.2.1 bt464.2.2.1 bt464.2.2.2.1 bt464.2.2.2.2.1 bt464.2.2.2.2.2.1 bt464.2.2.2.2.2.2).bind fun bt471 => (some (bt471.1 == bt457.1))) else (some false)) else (some false)) else (if bt464.1 = 0 then ((life_Life_State.f bt464.2.1 bt464.2.2.1 bt464.2.2.2.1 bt464.2.2.2.2.1 bt464.2.2.2.2.2.1 bt464.2.2.2.2.2.2).bind fun bt478 => (millwrightlaw09_LifeTurns.j2 k x7 (bt478.1 != 7) bt478.2.1 bt478.2.2.1 bt478.2.2.2.1 bt478.2.2.2.2.1 bt478.2.2.2.2.2.1 bt478.2.2.2.2.2.2)) else (millwrightlaw09_LifeTurns.j2 k x7 true bt464.2.1 bt464.2.2.1 bt464.2.2.2.1 bt464.2.2.2.2.1 bt464.2.2.2.2.2.1 bt464.2.2.2.2.2.2)))))
def millwrightlaw09_LifeTurns.j2 : Nat → Bool → Bool → Int → Int → Int → Int → Int → Int → Option (Bool)
  | 0, _, _, _, _, _, _, _, _ => none
  | k + 1, x7, x62, x442000, x442001, x442002, x442003, x442004, x442005 => if x62 = true then (some false) else (millwrightlaw09_LifeTurns.l1 k x7 0 x442000 x442001 x442002 x442003 x442004 x442005)
def millwrightlaw09_LifeTurns.l1 : Nat → Bool → Int → Int → Int → Int → Int → Int → Int → Option (Bool)
  | 0, _, _, _, _, _, _, _, _ => none
  | k + 1, x7, x13, x442000, x442001, x442002, x442003, x442004, x442005 => if x13 < 11 then ((millwrightlaw09_does.f k x442000 x442001 x442002 x442003 x442004 x442005 x13).bind fun bt492 => (if bt492.1 = 8 then ((life_Life_State.f bt492.2.1 bt492.2.2.1 bt492.2.2.2.1 bt492.2.2.2.2.1 bt492.2.2.2.2.2.1 bt492.2.2.2.2.2.2).bind fun bt499 => (if bt499.1 = 7 then (millwrightlaw09_LifeTurns.l1 k x7 (wrap64 (x13 + 1)) bt499.2.1 bt499.2.2.1 bt499.2.2.2.1 bt499.2.2.2.2.1 bt499.2.2.2.2.2.1 bt499.2.2.2.2.2.2) else (some false))) else (some false))) else (if x7 = true then ((life_Life_Final.f x442000 x442001 x442002 x442003 x442004 x442005).bind fun bt485 => (some bt485.1)) else (some false))
def millwrightlaw09_LifeTurns.l0 : Nat → List Int → Bool → Int → Int → Int → Int → Int → Int → Int → Option (Bool)
  | 0, _, _, _, _, _, _, _, _, _ => none
  | k + 1, x2, x7, x9, x442000, x442001, x442002, x442003, x442004, x442005 => if x9 < (x2.length : Int) then (if x9 < 100 then (if 0 ≤ x9 then ((millwrightlaw09_does.f k x442000 x442001 x442002 x442003 x442004 x442005 (wrap64 (Int.tmod (rd x2 x9) 10))).bind fun bt443 => (millwrightlaw09_LifeTurns.l0 k x2 x7 (wrap64 (x9 + 1)) bt443.2.1 bt443.2.2.1 bt443.2.2.2.1 bt443.2.2.2.2.1 bt443.2.2.2.2.2.1 bt443.2.2.2.2.2.2)) else (none)) else (millwrightlaw09_LifeTurns.j1 k x7 x442000 x442001 x442002 x442003 x442004 x442005)) else (millwrightlaw09_LifeTurns.j1 k x7 x442000 x442001 x442002 x442003 x442004 x442005)
end
def millwrightlaw09_LifeTurns.f (k : Nat) (a0 : Int) (a1 : Int) (l2 : List Int) : Option (Bool) := (millwrightlaw09_shown.f k).bind fun t434 => ((life_New.f a0 a1).bind fun bt435 => (millwrightlaw09_LifeTurns.l0 k l2 t434 0 bt435.1 bt435.2.1 bt435.2.2.1 bt435.2.2.2.1 bt435.2.2.2.2.1 bt435.2.2.2.2.2))
theorem millwrightlaw09_LifeTurns.mono_l : ∀ k, (∀ y0 y1 y2 y3 y4 y5 y6, LeO (millwrightlaw09_LifeTurns.j1 k y0 y1 y2 y3 y4 y5 y6) (millwrightlaw09_LifeTurns.j1 (k + 1) y0 y1 y2 y3 y4 y5 y6)) ∧ (∀ y0 y1 y2 y3 y4 y5 y6 y7, LeO (millwrightlaw09_LifeTurns.j2 k y0 y1 y2 y3 y4 y5 y6 y7) (millwrightlaw09_LifeTurns.j2 (k + 1) y0 y1 y2 y3 y4 y5 y6 y7)) ∧ (∀ y0 y1 y2 y3 y4 y5 y6 y7, LeO (millwrightlaw09_LifeTurns.l1 k y0 y1 y2 y3 y4 y5 y6 y7) (millwrightlaw09_LifeTurns.l1 (k + 1) y0 y1 y2 y3 y4 y5 y6 y7)) ∧ (∀ y0 y1 y2 y3 y4 y5 y6 y7 y8, LeO (millwrightlaw09_LifeTurns.l0 k y0 y1 y2 y3 y4 y5 y6 y7 y8) (millwrightlaw09_LifeTurns.l0 (k + 1) y0 y1 y2 y3 y4 y5 y6 y7 y8))
  | 0 => ⟨fun _ _ _ _ _ _ _ r h => by simp [millwrightlaw09_LifeTurns.j1] at h, fun _ _ _ _ _ _ _ _ r h => by simp [millwrightlaw09_LifeTurns.j2] at h, fun _ _ _ _ _ _ _ _ r h => by simp [millwrightlaw09_LifeTurns.l1] at h, fun _ _ _ _ _ _ _ _ _ r h => by simp [millwrightlaw09_LifeTurns.l0] at h⟩
  | k + 1 => by
    obtain ⟨ih0, ih1, ih2, ih3⟩ := millwrightlaw09_LifeTurns.mono_l k
    refine ⟨?_, ?_, ?_, ?_⟩
    · intro y0 y1 y2 y3 y4 y5 y6
      unfold millwrightlaw09_LifeTurns.j1
      repeat' first
      | (with_reducible exact ih0 _ _ _ _ _ _ _)
      | (with_reducible exact ih1 _ _ _ _ _ _ _ _)
      | (with_reducible exact ih2 _ _ _ _ _ _ _ _)
      | (with_reducible exact ih3 _ _ _ _ _ _ _ _ _)
      | (with_reducible exact life_Life_Turn.mono _ _ _ _ _ _ _)
      | (with_reducible exact millwrightlaw09_does.mono _ _ _ _ _ _ _ _)
      | (with_reducible exact millwrightlaw09_shown.mono _)
      | (with_reducible exact LeO.refl _)
      | (with_reducible exact LeO.none _)
      | (with_reducible refine LeO.ite ?_ ?_)
      | (with_reducible refine LeO.bind ?_ (fun _ => ?_))
      | exact ih0 _ _ _ _ _ _ _
      | exact ih1 _ _ _ _ _ _ _ _
      | exact ih2 _ _ _ _ _ _ _ _
      | exact ih3 _ _ _ _ _ _ _ _ _
      | exact life_Life_Turn.mono _ _ _ _ _ _ _
      | exact millwrightlaw09_does.mono _ _ _ _ _ _ _ _
      | exact millwrightlaw09_shown.mono _
      | exact LeO.none _
      | refine LeO.ite ?_ ?_
      | refine LeO.bind ?_ (fun _ => ?_)
    · intro y0 y1 y2 y3 y4 y5 y6 y7
      unfold millwrightlaw09_LifeTurns.j2
      repeat' first
      | (with_reducible exact ih0 _ _ _ _ _ _ _)
      | (with_reducible exact ih1 _ _ _ _ _ _ _ _)
      | (with_reducible exact ih2 _ _ _ _ _ _ _ _)
      | (with_reducible exact ih3 _ _ _ _ _ _ _ _ _)
      | (with_reducible exact life_Life_Turn.mono _ _ _ _ _ _ _)
      | (with_reducible exact millwrightlaw09_does.mono _ _ _ _ _ _ _ _)
      | (with_reducible exact millwrightlaw09_shown.mono _)
      | (with_reducible exact LeO.refl _)
      | (with_reducible exact LeO.none _)
      | (with_reducible refine LeO.ite ?_ ?_)
      | (with_reducible refine LeO.bind ?_ (fun _ => ?_))
      | exact ih0 _ _ _ _ _ _ _
      | exact ih1 _ _ _ _ _ _ _ _
      | exact ih2 _ _ _ _ _ _ _ _
      | exact ih3 _ _ _ _ _ _ _ _ _
      | exact life_Life_Turn.mono _ _ _ _ _ _ _
      | exact millwrightlaw09_does.mono _ _ _ _ _ _ _ _
      | exact millwrightlaw09_shown.mono _
      | exact LeO.none _
      | refine LeO.ite ?_ ?_
      | refine LeO.bind ?_ (fun _ => ?_)
    · intro y0 y1 y2 y3 y4 y5 y6 y7
      unfold millwrightlaw09_LifeTurns.l1
      repeat' first
      | (with_reducible exact ih0 _ _ _ _ _ _ _)
      | (with_reducible exact ih1 _ _ _ _ _ _ _ _)
      | (with_reducible exact ih2 _ _ _ _ _ _ _ _)
      | (with_reducible exact ih3 _ _ _ _ _ _ _ _ _)
      | (with_reducible exact life_Life_Turn.mono _ _ _ _ _ _ _)
      | (with_reducible exact millwrightlaw09_does.mono _ _ _ _ _ _ _ _)
      | (with_reducible exact millwrightlaw09_shown.mono _)
      | (with_reducible exact LeO.refl _)
      | (with_reducible exact LeO.none _)
      | (with_reducible refine LeO.ite ?_ ?_)
      | (with_reducible refine LeO.bind ?_ (fun _ => ?_))
      | exact ih0 _ _ _ _ _ _ _
      | exact ih1 _ _ _ _ _ _ _ _
      | exact ih2 _ _ _ _ _ _ _ _
      | exact ih3 _ _ _ _ _ _ _ _ _
      | exact life_Life_Turn.mono _ _ _ _ _ _ _
      | exact millwrightlaw09_does.mono _ _ _ _ _ _ _ _
      | exact millwrightlaw09_shown.mono _
      | exact LeO.none _
      | refine LeO.ite ?_ ?_
      | refine LeO.bind ?_ (fun _ => ?_)
    · intro y0 y1 y2 y3 y4 y5 y6 y7 y8
      unfold millwrightlaw09_LifeTurns.l0
      repeat' first
      | (with_reducible exact ih0 _ _ _ _ _ _ _)
      | (with_reducible exact ih1 _ _ _ _ _ _ _ _)
      | (with_reducible exact ih2 _ _ _ _ _ _ _ _)
      | (with_reducible exact ih3 _ _ _ _ _ _ _ _ _)
      | (with_reducible exact life_Life_Turn.mono _ _ _ _ _ _ _)
      | (with_reducible exact millwrightlaw09_does.mono _ _ _ _ _ _ _ _)
      | (with_reducible exact millwrightlaw09_shown.mono _)
      | (with_reducible exact LeO.refl _)
      | (with_reducible exact LeO.none _)
      | (with_reducible refine LeO.ite ?_ ?_)
      | (with_reducible refine LeO.bind ?_ (fun _ => ?_))
      | exact ih0 _ _ _ _ _ _ _
      | exact ih1 _ _ _ _ _ _ _ _
      | exact ih2 _ _ _ _ _ _ _ _
      | exact ih3 _ _ _ _ _ _ _ _ _
      | exact life_Life_Turn.mono _ _ _ _ _ _ _
      | exact millwrightlaw09_does.mono _ _ _ _ _ _ _ _
      | exact millwrightlaw09_shown.mono _
      | exact LeO.none _
      | refine LeO.ite ?_ ?_
      | refine LeO.bind ?_ (fun _ => ?_)
theorem millwrightlaw09_LifeTurns.mono : ∀ a0 a1 a2 k, LeO (millwrightlaw09_LifeTurns.f k a0 a1 a2) (millwrightlaw09_LifeTurns.f (k + 1) a0 a1 a2) := by
  intro a0 a1 a2 k
  obtain ⟨ih0, ih1, ih2, ih3⟩ := millwrightlaw09_LifeTurns.mono_l k
  unfold millwrightlaw09_LifeTurns.f
  repeat' first
      | (with_reducible exact ih0 _ _ _ _ _ _ _)
      | (with_reducible exact ih1 _ _ _ _ _ _ _ _)
      | (with_reducible exact ih2 _ _ _ _ _ _ _ _)
      | (with_reducible exact ih3 _ _ _ _ _ _ _ _ _)
      | (with_reducible exact life_Life_Turn.mono _ _ _ _ _ _ _)
      | (with_reducible exact millwrightlaw09_does.mono _ _ _ _ _ _ _ _)
      | (with_reducible exact millwrightlaw09_shown.mono _)
      | (with_reducible exact LeO.refl _)
      | (with_reducible exact LeO.none _)
      | (with_reducible refine LeO.ite ?_ ?_)
      | (with_reducible refine LeO.bind ?_ (fun _ => ?_))
      | exact ih0 _ _ _ _ _ _ _
      | exact ih1 _ _ _ _ _ _ _ _
      | exact ih2 _ _ _ _ _ _ _ _
      | exact ih3 _ _ _ _ _ _ _ _ _
      | exact life_Life_Turn.mono _ _ _ _ _ _ _
      | exact millwrightlaw09_does.mono _ _ _ _ _ _ _ _
      | exact millwrightlaw09_shown.mono _
      | exact LeO.none _
      | refine LeO.ite ?_ ?_
      | refine LeO.bind ?_ (fun _ => ?_)
set_option maxHeartbeats 8000000 in
set_option maxRecDepth 100000 in
theorem millwrightlaw09_LifeTurns.calls (k : Nat) (a0 : Int) (a1 : Int) (A2 : Option Addr) (c2 : Nat) (l2 : List Int) (w : World) (hr2 : Kd.C (Kd.int .u8) w A2 l2.length l2) (hc2 : l2.length ≤ c2) (h : millwrightlaw09_LifeTurns.f k a0 a1 l2 = some true) :
    Calls Try.prog 14 #[.int .i64 a0, .int .i64 a1, .slice A2 l2.length c2] w fun e w' => e = .returned (.bool true) ∧ Below w.heap.size w w' := by
  have HR2 := Aside0.mk hr2
  have HC2 := Aside0.mk hc2
  clear hr2 hc2
  have HB := Aside0.mk (Below.refl w.heap.size w)
  have H : ((millwrightlaw09_shown.f k).bind fun t434 => ((life_New.f a0 a1).bind fun bt435 => (millwrightlaw09_LifeTurns.l0 k l2 t434 0 bt435.1 bt435.2.1 bt435.2.2.1 bt435.2.2.2.1 bt435.2.2.2.2.1 bt435.2.2.2.2.2))) = some true := h
  clear h
  replace H := Option.bind_eq_some_iff.mp H
  obtain ⟨t434, A40, H⟩ := H
  replace H : ((life_New.f a0 a1).bind fun bt435 => (millwrightlaw09_LifeTurns.l0 k l2 t434 0 bt435.1 bt435.2.1 bt435.2.2.1 bt435.2.2.2.1 bt435.2.2.2.2.1 bt435.2.2.2.2.2)) = some true := H
  have A4 := Aside0.mk A40
  clear A40
  replace H := Option.bind_eq_some_iff.mp H
  obtain ⟨⟨t435, t436, t437, t438, t439, t440⟩, A50, H⟩ := H
  replace H : (millwrightlaw09_LifeTurns.l0 k l2 t434 0 t435 t436 t437 t438 t439 t440) = some true := H
  have A5 := Aside0.mk A50
  clear A50
  have HC6 := Aside0.mk H
  clear H
  go_enter Try.func14, Try.ntmps14
  go_upto_block 0 with (first | ((with_reducible refine gate_callee (f := 15) rfl ?_); refine goesL_ (some 14) rfl rfl Try.func15 (by kernel_rfl) rfl #[] rfl (by (try simp only [List.map_toArray, List.map_cons, List.map_nil]); first | done | rfl | (simp only [List.length_drop, List.length_take]; rfl)) ?_; (with_reducible refine (millwrightlaw09_shown.calls k  t434 _ A4.out).mono ?_); rintro e w7 ⟨rfl, hb⟩; refine ⟨_, rfl, ?_⟩; have n0_ := Aside0.mk (below_step (by repeat (first | (with_reducible first | exact HB.out | apply below_alloc | apply pw_below_drewN | apply below_drew1) | exact HB.out)) hb); clear HB; have HB := n0_; clear n0_; (try clear hb); (try clear hb2); (try clear hk); (try clear hi)) | ((with_reducible refine gate_callee (f := 16) rfl ?_); refine goesL_ (some 17) rfl rfl Try.func16 (by kernel_rfl) rfl #[.int .i64 a0, .int .i64 a1] rfl (by (try simp only [List.map_toArray, List.map_cons, List.map_nil]); first | done | rfl | (simp only [List.length_drop, List.length_take]; rfl)) ?_; (with_reducible refine (life_New.calls a0 a1 t435 t436 t437 t438 t439 t440 w _ ?side1 A5.out).mono ?_); (case side1 => repeat (first | (with_reducible first | exact HB.out | apply below_alloc | apply pw_below_drewN | apply below_drew1) | exact HB.out)); rintro e w8 ⟨g441, rfl, hi, hb, hb2⟩; refine ⟨_, rfl, ?_⟩; have n0_ := Aside0.mk (hb); have n1_ := Aside0.mk (hi); clear HB; have HB := n0_; have HI441 := n1_; clear n0_ n1_; (try clear hb); (try clear hb2); (try clear hk); (try clear hi)))
  (try simp only [Act.put, List.setIfInBounds_toArray, List.set_cons_zero, List.set_cons_succ])
  go_cut [] (fun wc => ∃ (kq : Nat) (x442000_5 : Int) (x442001_5 : Int) (x442002_5 : Int) (x442003_5 : Int) (x442004_5 : Int) (x442005_5 : Int), Aside0 (millwrightlaw09_LifeTurns.j1 kq t434 x442000_5 x442001_5 x442002_5 x442003_5 x442004_5 x442005_5 = some true) ∧ Aside0 (kq ≤ k) ∧ Aside0 (IsS62 w wc g441 x442000_5 x442001_5 x442002_5 x442003_5 x442004_5 x442005_5) ∧ Aside0 (Below w.heap.size w wc))
  case first =>
    have H := HC6.out
    clear HC6
    have H' := Aside0.mk H
    clear H
    go_wp2
    go_loopg [9] k (fun kq v9 w' => ∃ (x9_1 : Int) (x442000_1 : Int) (x442001_1 : Int) (x442002_1 : Int) (x442003_1 : Int) (x442004_1 : Int) (x442005_1 : Int), v9 = .int .i64 x9_1 ∧ Aside0 (millwrightlaw09_LifeTurns.l0 kq l2 t434 x9_1 x442000_1 x442001_1 x442002_1 x442003_1 x442004_1 x442005_1 = some true) ∧ Aside0 (kq ≤ k) ∧ Aside0 (IsS62 w w' g441 x442000_1 x442001_1 x442002_1 x442003_1 x442004_1 x442005_1) ∧ Aside0 (Below w.heap.size w w'))
    case atStart => exact ⟨(0), (t435), (t436), (t437), (t438), (t439), (t440), (by first | rfl | (simp; done) | (simp [*]; done)), H', ⟨Nat.le_refl _⟩, ⟨by repeat (first | (with_reducible first | exact HI441.out | apply IsS62.alloc | apply IsS62.drewN | apply IsS62.drew | apply IsS62.set_0 | apply IsS62.set_1 | apply IsS62.set_2 | apply IsS62.set_3 | apply IsS62.set_4 | apply IsS62.set_5) | exact HI441.out)⟩, ⟨by repeat (first | (with_reducible first | exact HB.out | apply below_alloc | apply pw_below_drewN | apply below_drew1 | refine below_set ?_ (IsS62.ge HI441.out)) | exact HB.out)⟩⟩
    case round =>
      clear H'
      try clear c1
      try clear c2
      try clear p2
      obtain ⟨x9_1, x442000_1, x442001_1, x442002_1, x442003_1, x442004_1, x442005_1, rfl, HA, HK1, HI441, HB⟩ := hrel
      cases gk with
      | zero => exact absurd HA.out (by simp [millwrightlaw09_LifeTurns.l0])
      | succ k1 =>
        have H := HA.out
        clear HA
        simp only [millwrightlaw09_LifeTurns.l0] at H
        by_cases c9 : x9_1 < (l2.length : Int)
        · rw [if_pos c9] at H
          have c9b0 : decide (x9_1 < (l2.length : Int)) = true := decide_eq_true c9
          clear c9
          (first | rw [c9b0] | (simp only [i64_w, i32_w]; rw [c9b0]) | skip)
          by_cases c10 : x9_1 < 100
          · rw [if_pos c10] at H
            have c10b0 : decide (x9_1 < 100) = true := decide_eq_true c10
            clear c10
            by_cases c11 : 0 ≤ x9_1
            · rw [if_pos c11] at H
              have c11b0 : decide (0 ≤ x9_1) = true := decide_eq_true c11
              clear c11
              replace H := Option.bind_eq_some_iff.mp H
              obtain ⟨⟨t443, t444, t445, t446, t447, t448, t449⟩, A120, H⟩ := H
              replace H : (millwrightlaw09_LifeTurns.l0 k1 l2 t434 (wrap64 (x9_1 + 1)) t444 t445 t446 t447 t448 t449) = some true := H
              have A12 := Aside0.mk A120
              clear A120
              have H' := Aside0.mk H
              clear H
              have p442 : 0 ≤ (x9_1 : Int) := of_decide_eq_true (by first | (with_reducible assumption) | assumption)
              have q442 : x9_1 < (l2.length : Int) := of_decide_eq_true (by first | (with_reducible assumption) | assumption)
              obtain ⟨ad442, e442, hx442_0⟩ := Kd.at_int HR2.out x9_1 p442 q442
              cases e442
              replace hx442_0 := (HB.out.cell (World.block_lt_of_cell? w _ hx442_0)).trans hx442_0
              replace p442 := eq_true p442
              replace q442 := eq_true q442
              go_wp2_with (first | ((with_reducible refine gate_callee (f := 40) rfl ?_); refine goesL_ (some 37) rfl rfl Try.func40 (by kernel_rfl) rfl #[.pointer (some ⟨g441, 0, none⟩), .int .i64 (wrap64 (Int.tmod (rd l2 x9_1) 10))] rfl (by (try simp only [List.map_toArray, List.map_cons, List.map_nil]); first | done | rfl | (simp only [List.length_drop, List.length_take]; rfl)) ?_; (with_reducible refine (millwrightlaw09_does.calls k1 g441 x442000_1 x442001_1 x442002_1 x442003_1 x442004_1 x442005_1 (wrap64 (Int.tmod (rd l2 x9_1) 10)) t443 t444 t445 t446 t447 t448 t449 w _ ?side1 ?side2 A12.out).mono ?_); (case side1 => repeat (first | (with_reducible first | exact HI441.out | apply IsS62.alloc | apply IsS62.drewN | apply IsS62.drew | apply IsS62.set_0 | apply IsS62.set_1 | apply IsS62.set_2 | apply IsS62.set_3 | apply IsS62.set_4 | apply IsS62.set_5) | exact HI441.out)); (case side2 => repeat (first | (with_reducible first | exact HB.out | apply below_alloc | apply pw_below_drewN | apply below_drew1 | refine below_set ?_ (IsS62.ge HI441.out)) | exact HB.out)); rintro e w13 ⟨rfl, hi, hb, hk⟩; refine ⟨_, rfl, ?_⟩; have n0_ := Aside0.mk (hb); have n1_ := Aside0.mk (hi); clear HB; clear HI441; have HB := n0_; have HI441 := n1_; clear n0_ n1_; (try clear hb); (try clear hb2); (try clear hk); (try clear hi)))
              go_roundg k1
              case measure => have := HK1.out; omega
              case rel => exact ⟨(wrap64 (x9_1 + 1)), (t444), (t445), (t446), (t447), (t448), (t449), (by first | rfl | (simp; done) | (simp [*]; done)), H', ⟨by have := HK1.out; omega⟩, ⟨by repeat (first | (with_reducible first | exact HI441.out | apply IsS62.alloc | apply IsS62.drewN | apply IsS62.drew | apply IsS62.set_0 | apply IsS62.set_1 | apply IsS62.set_2 | apply IsS62.set_3 | apply IsS62.set_4 | apply IsS62.set_5) | exact HI441.out)⟩, ⟨by repeat (first | (with_reducible first | exact HB.out | apply below_alloc | apply pw_below_drewN | apply below_drew1 | refine below_set ?_ (IsS62.ge HI441.out)) | exact HB.out)⟩⟩
            · rw [if_neg c11] at H
              exact absurd H (by simp)
          · rw [if_neg c10] at H
            have c10b0 : decide (x9_1 < 100) = false := decide_eq_false c10
            clear c10
            have H' := Aside0.mk H
            clear H
            go_wp2
            go_meet
            case rel => exact ⟨_, (x442000_1), (x442001_1), (x442002_1), (x442003_1), (x442004_1), (x442005_1), H', ⟨by have := HK1.out; first | omega | exact Nat.le_refl _⟩, ⟨by repeat (first | (with_reducible first | exact HI441.out | apply IsS62.alloc | apply IsS62.drewN | apply IsS62.drew | apply IsS62.set_0 | apply IsS62.set_1 | apply IsS62.set_2 | apply IsS62.set_3 | apply IsS62.set_4 | apply IsS62.set_5) | exact HI441.out)⟩, ⟨by repeat (first | (with_reducible first | exact HB.out | apply below_alloc | apply pw_below_drewN | apply below_drew1 | refine below_set ?_ (IsS62.ge HI441.out)) | exact HB.out)⟩⟩
        · rw [if_neg c9] at H
          have c9b0 : decide (x9_1 < (l2.length : Int)) = false := decide_eq_false c9
          clear c9
          (first | rw [c9b0] | (simp only [i64_w, i32_w]; rw [c9b0]) | skip)
          have H' := Aside0.mk H
          clear H
          go_wp2
          go_meet
          case rel => exact ⟨_, (x442000_1), (x442001_1), (x442002_1), (x442003_1), (x442004_1), (x442005_1), H', ⟨by have := HK1.out; first | omega | exact Nat.le_refl _⟩, ⟨by repeat (first | (with_reducible first | exact HI441.out | apply IsS62.alloc | apply IsS62.drewN | apply IsS62.drew | apply IsS62.set_0 | apply IsS62.set_1 | apply IsS62.set_2 | apply IsS62.set_3 | apply IsS62.set_4 | apply IsS62.set_5) | exact HI441.out)⟩, ⟨by repeat (first | (with_reducible first | exact HB.out | apply below_alloc | apply pw_below_drewN | apply below_drew1 | refine below_set ?_ (IsS62.ge HI441.out)) | exact HB.out)⟩⟩
  case rest =>
    clear HC6
    try clear c1
    try clear c2
    try clear p2
    try clear c4
    try clear p4
    try clear q4
    try clear hx4
    try clear p6
    try clear c9
    try clear c9b0
    try clear c10
    try clear c10b0
    try clear c11
    try clear c11b0
    try clear hx442_0
    try clear p2
    try clear p442
    try clear q442
    obtain ⟨kq, x442000_5, x442001_5, x442002_5, x442003_5, x442004_5, x442005_5, HA, HJ5, HI441, HB⟩ := hcut
    cases kq with
    | zero => exact absurd HA.out (by simp [millwrightlaw09_LifeTurns.j1])
    | succ kj5 =>
      have H := HA.out
      clear HA
      simp only [millwrightlaw09_LifeTurns.j1] at H
      replace H := Option.bind_eq_some_iff.mp H
      obtain ⟨⟨t450, t451, t452, t453, t454, t455, t456⟩, A140, H⟩ := H
      replace H : ((life_Life_State.f t451 t452 t453 t454 t455 t456).bind fun bt457 => ((life_Life_Turn.f kj5 bt457.2.1 bt457.2.2.1 bt457.2.2.2.1 bt457.2.2.2.2.1 bt457.2.2.2.2.2.1 bt457.2.2.2.2.2.2).bind fun bt464 => (if t450 = true then (if t434 = true then (if bt464.1 = 8 then ((life_Life_State.f bt464.2.1 bt464.2.2.1 bt464.2.2.2.1 bt464.2.2.2.2.1 bt464.2.2.2.2.2.1 bt464.2.2.2.2.2.2).bind fun bt471 => (some (bt471.1 == bt457.1))) else (some false)) else (some false)) else (if bt464.1 = 0 then ((life_Life_State.f bt464.2.1 bt464.2.2.1 bt464.2.2.2.1 bt464.2.2.2.2.1 bt464.2.2.2.2.2.1 bt464.2.2.2.2.2.2).bind fun bt478 => (millwrightlaw09_LifeTurns.j2 kj5 t434 (bt478.1 != 7) bt478.2.1 bt478.2.2.1 bt478.2.2.2.1 bt478.2.2.2.2.1 bt478.2.2.2.2.2.1 bt478.2.2.2.2.2.2)) else (millwrightlaw09_LifeTurns.j2 kj5 t434 true bt464.2.1 bt464.2.2.1 bt464.2.2.2.1 bt464.2.2.2.2.1 bt464.2.2.2.2.2.1 bt464.2.2.2.2.2.2))))) = some true := H
      have A14 := Aside0.mk A140
      clear A140
      replace H := Option.bind_eq_some_iff.mp H
      obtain ⟨⟨t457, t458, t459, t460, t461, t462, t463⟩, A150, H⟩ := H
      replace H : ((life_Life_Turn.f kj5 t458 t459 t460 t461 t462 t463).bind fun bt464 => (if t450 = true then (if t434 = true then (if bt464.1 = 8 then ((life_Life_State.f bt464.2.1 bt464.2.2.1 bt464.2.2.2.1 bt464.2.2.2.2.1 bt464.2.2.2.2.2.1 bt464.2.2.2.2.2.2).bind fun bt471 => (some (bt471.1 == t457))) else (some false)) else (some false)) else (if bt464.1 = 0 then ((life_Life_State.f bt464.2.1 bt464.2.2.1 bt464.2.2.2.1 bt464.2.2.2.2.1 bt464.2.2.2.2.2.1 bt464.2.2.2.2.2.2).bind fun bt478 => (millwrightlaw09_LifeTurns.j2 kj5 t434 (bt478.1 != 7) bt478.2.1 bt478.2.2.1 bt478.2.2.2.1 bt478.2.2.2.2.1 bt478.2.2.2.2.2.1 bt478.2.2.2.2.2.2)) else (millwrightlaw09_LifeTurns.j2 kj5 t434 true bt464.2.1 bt464.2.2.1 bt464.2.2.2.1 bt464.2.2.2.2.1 bt464.2.2.2.2.2.1 bt464.2.2.2.2.2.2)))) = some true := H
      have A15 := Aside0.mk A150
      clear A150
      replace H := Option.bind_eq_some_iff.mp H
      obtain ⟨⟨t464, t465, t466, t467, t468, t469, t470⟩, A160, H⟩ := H
      replace H : (if t450 = true then (if t434 = true then (if t464 = 8 then ((life_Life_State.f t465 t466 t467 t468 t469 t470).bind fun bt471 => (some (bt471.1 == t457))) else (some false)) else (some false)) else (if t464 = 0 then ((life_Life_State.f t465 t466 t467 t468 t469 t470).bind fun bt478 => (millwrightlaw09_LifeTurns.j2 kj5 t434 (bt478.1 != 7) bt478.2.1 bt478.2.2.1 bt478.2.2.2.1 bt478.2.2.2.2.1 bt478.2.2.2.2.2.1 bt478.2.2.2.2.2.2)) else (millwrightlaw09_LifeTurns.j2 kj5 t434 true t465 t466 t467 t468 t469 t470))) = some true := H
      have A16 := Aside0.mk A160
      clear A160
      by_cases c17 : t450 = true
      · subst c17
        have H1 : (if t434 = true then (if t464 = 8 then ((life_Life_State.f t465 t466 t467 t468 t469 t470).bind fun bt471 => (some (bt471.1 == t457))) else (some false)) else (some false)) = some true := by rw [if_pos rfl] at H; exact H
        clear H
        have H := H1
        clear H1
        by_cases c18 : t434 = true
        · subst c18
          have H1 : (if t464 = 8 then ((life_Life_State.f t465 t466 t467 t468 t469 t470).bind fun bt471 => (some (bt471.1 == t457))) else (some false)) = some true := by rw [if_pos rfl] at H; exact H
          clear H
          have H := H1
          clear H1
          by_cases c19 : t464 = 8
          · rw [if_pos c19] at H
            have c19b0 : (t464 == 8) = true := beq_iff_eq.mpr c19
            have c19b1 : (t464 != 8) = false := bne_eq_false_iff_eq.mpr c19
            clear c19
            replace H := Option.bind_eq_some_iff.mp H
            obtain ⟨⟨t471, t472, t473, t474, t475, t476, t477⟩, A200, H⟩ := H
            replace H : (some (t471 == t457)) = some true := H
            have A20 := Aside0.mk A200
            clear A200
            have HT_ := Option.some.inj H
            clear H
            go_wp2_with (first | ((with_reducible refine gate_callee (f := 42) rfl ?_); refine goesL_ (some 39) rfl rfl Try.func42 (by kernel_rfl) rfl #[.pointer (some ⟨g441, 0, none⟩)] rfl (by (try simp only [List.map_toArray, List.map_cons, List.map_nil]); first | done | rfl | (simp only [List.length_drop, List.length_take]; rfl)) ?_; (with_reducible refine (life_Life_Final.calls g441 x442000_5 x442001_5 x442002_5 x442003_5 x442004_5 x442005_5 true t451 t452 t453 t454 t455 t456 w _ ?side1 ?side2 A14.out).mono ?_); (case side1 => repeat (first | (with_reducible first | exact HI441.out | apply IsS62.alloc | apply IsS62.drewN | apply IsS62.drew | apply IsS62.set_0 | apply IsS62.set_1 | apply IsS62.set_2 | apply IsS62.set_3 | apply IsS62.set_4 | apply IsS62.set_5) | exact HI441.out)); (case side2 => repeat (first | (with_reducible first | exact HB.out | apply below_alloc | apply pw_below_drewN | apply below_drew1 | refine below_set ?_ (IsS62.ge HI441.out)) | exact HB.out)); rintro e w21 ⟨rfl, hi, hb, hk⟩; refine ⟨_, rfl, ?_⟩; have n0_ := Aside0.mk (hb); have n1_ := Aside0.mk (hi); clear HB; clear HI441; have HB := n0_; have HI441 := n1_; clear n0_ n1_; (try clear hb); (try clear hb2); (try clear hk); (try clear hi)) | ((with_reducible refine gate_callee (f := 20) rfl ?_); refine goesL_ (some 41) rfl rfl Try.func20 (by kernel_rfl) rfl #[.pointer (some ⟨g441, 0, none⟩)] rfl (by (try simp only [List.map_toArray, List.map_cons, List.map_nil]); first | done | rfl | (simp only [List.length_drop, List.length_take]; rfl)) ?_; (with_reducible refine (life_Life_State.calls g441 t451 t452 t453 t454 t455 t456 t457 t458 t459 t460 t461 t462 t463 w _ ?side1 ?side2 A15.out).mono ?_); (case side1 => repeat (first | (with_reducible first | exact HI441.out | apply IsS62.alloc | apply IsS62.drewN | apply IsS62.drew | apply IsS62.set_0 | apply IsS62.set_1 | apply IsS62.set_2 | apply IsS62.set_3 | apply IsS62.set_4 | apply IsS62.set_5) | exact HI441.out)); (case side2 => repeat (first | (with_reducible first | exact HB.out | apply below_alloc | apply pw_below_drewN | apply below_drew1 | refine below_set ?_ (IsS62.ge HI441.out)) | exact HB.out)); rintro e w22 ⟨rfl, hi, hb, hk⟩; refine ⟨_, rfl, ?_⟩; have n0_ := Aside0.mk (hb); have n1_ := Aside0.mk (hi); clear HB; clear HI441; have HB := n0_; have HI441 := n1_; clear n0_ n1_; (try clear hb); (try clear hb2); (try clear hk); (try clear hi)) | ((with_reducible refine gate_callee (f := 44) rfl ?_); refine goesL_ (some 43) rfl rfl Try.func44 (by kernel_rfl) rfl #[.pointer (some ⟨g441, 0, none⟩)] rfl (by (try simp only [List.map_toArray, List.map_cons, List.map_nil]); first | done | rfl | (simp only [List.length_drop, List.length_take]; rfl)) ?_; (with_reducible refine (life_Life_Turn.calls kj5 g441 t458 t459 t460 t461 t462 t463 t464 t465 t466 t467 t468 t469 t470 w _ ?side1 ?side2 A16.out).mono ?_); (case side1 => repeat (first | (with_reducible first | exact HI441.out | apply IsS62.alloc | apply IsS62.drewN | apply IsS62.drew | apply IsS62.set_0 | apply IsS62.set_1 | apply IsS62.set_2 | apply IsS62.set_3 | apply IsS62.set_4 | apply IsS62.set_5) | exact HI441.out)); (case side2 => repeat (first | (with_reducible first | exact HB.out | apply below_alloc | apply pw_below_drewN | apply below_drew1 | refine below_set ?_ (IsS62.ge HI441.out)) | exact HB.out)); rintro e w23 ⟨rfl, hi, hb, hk⟩; refine ⟨_, rfl, ?_⟩; have n0_ := Aside0.mk (hb); have n1_ := Aside0.mk (hi); clear HB; clear HI441; have HB := n0_; have HI441 := n1_; clear n0_ n1_; (try clear hb); (try clear hb2); (try clear hk); (try clear hi)) | (go_at_call 20; (with_reducible refine (life_Life_State.calls g441 t465 t466 t467 t468 t469 t470 t471 t472 t473 t474 t475 t476 t477 w _ ?side1 ?side2 A20.out).mono ?_); (case side1 => repeat (first | (with_reducible first | exact HI441.out | apply IsS62.alloc | apply IsS62.drewN | apply IsS62.drew | apply IsS62.set_0 | apply IsS62.set_1 | apply IsS62.set_2 | apply IsS62.set_3 | apply IsS62.set_4 | apply IsS62.set_5) | exact HI441.out)); (case side2 => repeat (first | (with_reducible first | exact HB.out | apply below_alloc | apply pw_below_drewN | apply below_drew1 | refine below_set ?_ (IsS62.ge HI441.out)) | exact HB.out)); rintro e w24 ⟨rfl, hi, hb, hk⟩; have n0_ := Aside0.mk (hb); have n1_ := Aside0.mk (hi); clear HB; clear HI441; have HB := n0_; have HI441 := n1_; clear n0_ n1_; (try clear hb); (try clear hb2); (try clear hk); (try clear hi)))
            go_ret
            exact ⟨by first | rfl | (simp [errW_none, errW_some] <;> rfl) | (simp [*, errW_none, errW_some] <;> rfl), by repeat (first | (with_reducible first | exact HB.out | apply below_alloc | apply pw_below_drewN | apply below_drew1 | refine below_set ?_ (IsS62.ge HI441.out)) | exact HB.out)⟩
          · rw [if_neg c19] at H
            have c19b0 : (t464 == 8) = false := beq_eq_false_iff_ne.mpr c19
            have c19b1 : (t464 != 8) = true := bne_iff_ne.mpr c19
            exact absurd H (by simp)
        · replace c18 := Bool.eq_false_iff.mpr c18
          subst c18
          have H1 : (some false) = some true := by rw [if_neg (show ¬ (false = true) by decide)] at H; exact H
          clear H
          have H := H1
          clear H1
          exact absurd H (by simp)
      · replace c17 := Bool.eq_false_iff.mpr c17
        subst c17
        have H1 : (if t464 = 0 then ((life_Life_State.f t465 t466 t467 t468 t469 t470).bind fun bt478 => (millwrightlaw09_LifeTurns.j2 kj5 t434 (bt478.1 != 7) bt478.2.1 bt478.2.2.1 bt478.2.2.2.1 bt478.2.2.2.2.1 bt478.2.2.2.2.2.1 bt478.2.2.2.2.2.2)) else (millwrightlaw09_LifeTurns.j2 kj5 t434 true t465 t466 t467 t468 t469 t470)) = some true := by rw [if_neg (show ¬ (false = true) by decide)] at H; exact H
        clear H
        have H := H1
        clear H1
        have HC25 := Aside0.mk H
        clear H
        go_upto_region 14 with (first | ((with_reducible refine gate_callee (f := 42) rfl ?_); refine goesL_ (some 39) rfl rfl Try.func42 (by kernel_rfl) rfl #[.pointer (some ⟨g441, 0, none⟩)] rfl (by (try simp only [List.map_toArray, List.map_cons, List.map_nil]); first | done | rfl | (simp only [List.length_drop, List.length_take]; rfl)) ?_; (with_reducible refine (life_Life_Final.calls g441 x442000_5 x442001_5 x442002_5 x442003_5 x442004_5 x442005_5 false t451 t452 t453 t454 t455 t456 w _ ?side1 ?side2 A14.out).mono ?_); (case side1 => repeat (first | (with_reducible first | exact HI441.out | apply IsS62.alloc | apply IsS62.drewN | apply IsS62.drew | apply IsS62.set_0 | apply IsS62.set_1 | apply IsS62.set_2 | apply IsS62.set_3 | apply IsS62.set_4 | apply IsS62.set_5) | exact HI441.out)); (case side2 => repeat (first | (with_reducible first | exact HB.out | apply below_alloc | apply pw_below_drewN | apply below_drew1 | refine below_set ?_ (IsS62.ge HI441.out)) | exact HB.out)); rintro e w26 ⟨rfl, hi, hb, hk⟩; refine ⟨_, rfl, ?_⟩; have n0_ := Aside0.mk (hb); have n1_ := Aside0.mk (hi); clear HB; clear HI441; have HB := n0_; have HI441 := n1_; clear n0_ n1_; (try clear hb); (try clear hb2); (try clear hk); (try clear hi)) | ((with_reducible refine gate_callee (f := 20) rfl ?_); refine goesL_ (some 41) rfl rfl Try.func20 (by kernel_rfl) rfl #[.pointer (some ⟨g441, 0, none⟩)] rfl (by (try simp only [List.map_toArray, List.map_cons, List.map_nil]); first | done | rfl | (simp only [List.length_drop, List.length_take]; rfl)) ?_; (with_reducible refine (life_Life_State.calls g441 t451 t452 t453 t454 t455 t456 t457 t458 t459 t460 t461 t462 t463 w _ ?side1 ?side2 A15.out).mono ?_); (case side1 => repeat (first | (with_reducible first | exact HI441.out | apply IsS62.alloc | apply IsS62.drewN | apply IsS62.drew | apply IsS62.set_0 | apply IsS62.set_1 | apply IsS62.set_2 | apply IsS62.set_3 | apply IsS62.set_4 | apply IsS62.set_5) | exact HI441.out)); (case side2 => repeat (first | (with_reducible first | exact HB.out | apply below_alloc | apply pw_below_drewN | apply below_drew1 | refine below_set ?_ (IsS62.ge HI441.out)) | exact HB.out)); rintro e w27 ⟨rfl, hi, hb, hk⟩; refine ⟨_, rfl, ?_⟩; have n0_ := Aside0.mk (hb); have n1_ := Aside0.mk (hi); clear HB; clear HI441; have HB := n0_; have HI441 := n1_; clear n0_ n1_; (try clear hb); (try clear hb2); (try clear hk); (try clear hi)) | ((with_reducible refine gate_callee (f := 44) rfl ?_); refine goesL_ (some 43) rfl rfl Try.func44 (by kernel_rfl) rfl #[.pointer (some ⟨g441, 0, none⟩)] rfl (by (try simp only [List.map_toArray, List.map_cons, List.map_nil]); first | done | rfl | (simp only [List.length_drop, List.length_take]; rfl)) ?_; (with_reducible refine (life_Life_Turn.calls kj5 g441 t458 t459 t460 t461 t462 t463 t464 t465 t466 t467 t468 t469 t470 w _ ?side1 ?side2 A16.out).mono ?_); (case side1 => repeat (first | (with_reducible first | exact HI441.out | apply IsS62.alloc | apply IsS62.drewN | apply IsS62.drew | apply IsS62.set_0 | apply IsS62.set_1 | apply IsS62.set_2 | apply IsS62.set_3 | apply IsS62.set_4 | apply IsS62.set_5) | exact HI441.out)); (case side2 => repeat (first | (with_reducible first | exact HB.out | apply below_alloc | apply pw_below_drewN | apply below_drew1 | refine below_set ?_ (IsS62.ge HI441.out)) | exact HB.out)); rintro e w28 ⟨rfl, hi, hb, hk⟩; refine ⟨_, rfl, ?_⟩; have n0_ := Aside0.mk (hb); have n1_ := Aside0.mk (hi); clear HB; clear HI441; have HB := n0_; have HI441 := n1_; clear n0_ n1_; (try clear hb); (try clear hb2); (try clear hk); (try clear hi)))
        (try simp only [Act.put, List.setIfInBounds_toArray, List.set_cons_zero, List.set_cons_succ])
        go_cut [62] (fun v62 wc => ∃ (kq : Nat) (x62_24 : Bool) (x442000_24 : Int) (x442001_24 : Int) (x442002_24 : Int) (x442003_24 : Int) (x442004_24 : Int) (x442005_24 : Int), v62 = .bool x62_24 ∧ Aside0 (millwrightlaw09_LifeTurns.j2 kq t434 x62_24 x442000_24 x442001_24 x442002_24 x442003_24 x442004_24 x442005_24 = some true) ∧ Aside0 (kq ≤ kj5) ∧ Aside0 (IsS62 w wc g441 x442000_24 x442001_24 x442002_24 x442003_24 x442004_24 x442005_24) ∧ Aside0 (Below w.heap.size w wc))
        case first =>
          have H := HC25.out
          clear HC25
          by_cases c29 : t464 = 0
          · rw [if_pos c29] at H
            have c29b0 : (t464 == 0) = true := beq_iff_eq.mpr c29
            have c29b1 : (t464 != 0) = false := bne_eq_false_iff_eq.mpr c29
            clear c29
            (first | rw [c29b0] | (simp only [i64_w, i32_w]; rw [c29b0]) | skip)
            replace H := Option.bind_eq_some_iff.mp H
            obtain ⟨⟨t478, t479, t480, t481, t482, t483, t484⟩, A300, H⟩ := H
            replace H : (millwrightlaw09_LifeTurns.j2 kj5 t434 (t478 != 7) t479 t480 t481 t482 t483 t484) = some true := H
            have A30 := Aside0.mk A300
            clear A300
            have H' := Aside0.mk H
            clear H
            go_wp2_with (first | (go_at_call 20; (with_reducible refine (life_Life_State.calls g441 t465 t466 t467 t468 t469 t470 t478 t479 t480 t481 t482 t483 t484 w _ ?side1 ?side2 A30.out).mono ?_); (case side1 => repeat (first | (with_reducible first | exact HI441.out | apply IsS62.alloc | apply IsS62.drewN | apply IsS62.drew | apply IsS62.set_0 | apply IsS62.set_1 | apply IsS62.set_2 | apply IsS62.set_3 | apply IsS62.set_4 | apply IsS62.set_5) | exact HI441.out)); (case side2 => repeat (first | (with_reducible first | exact HB.out | apply below_alloc | apply pw_below_drewN | apply below_drew1 | refine below_set ?_ (IsS62.ge HI441.out)) | exact HB.out)); rintro e w31 ⟨rfl, hi, hb, hk⟩; have n0_ := Aside0.mk (hb); have n1_ := Aside0.mk (hi); clear HB; clear HI441; have HB := n0_; have HI441 := n1_; clear n0_ n1_; (try clear hb); (try clear hb2); (try clear hk); (try clear hi)))
            go_meet
            case rel => exact ⟨_, ((t478 != 7)), (t479), (t480), (t481), (t482), (t483), (t484), (by first | rfl | (simp; done) | (simp [*]; done)), H', ⟨by have := HJ5.out; first | omega | exact Nat.le_refl _⟩, ⟨by repeat (first | (with_reducible first | exact HI441.out | apply IsS62.alloc | apply IsS62.drewN | apply IsS62.drew | apply IsS62.set_0 | apply IsS62.set_1 | apply IsS62.set_2 | apply IsS62.set_3 | apply IsS62.set_4 | apply IsS62.set_5) | exact HI441.out)⟩, ⟨by repeat (first | (with_reducible first | exact HB.out | apply below_alloc | apply pw_below_drewN | apply below_drew1 | refine below_set ?_ (IsS62.ge HI441.out)) | exact HB.out)⟩⟩
          · rw [if_neg c29] at H
            have c29b0 : (t464 == 0) = false := beq_eq_false_iff_ne.mpr c29
            have c29b1 : (t464 != 0) = true := bne_iff_ne.mpr c29
            (first | rw [c29b0] | (simp only [i64_w, i32_w]; rw [c29b0]) | skip)
            have H' := Aside0.mk H
            clear H
            go_wp2
            go_meet
            case rel => exact ⟨_, (true), (t465), (t466), (t467), (t468), (t469), (t470), (by first | rfl | (simp; done) | (simp [*]; done)), H', ⟨by have := HJ5.out; first | omega | exact Nat.le_refl _⟩, ⟨by repeat (first | (with_reducible first | exact HI441.out | apply IsS62.alloc | apply IsS62.drewN | apply IsS62.drew | apply IsS62.set_0 | apply IsS62.set_1 | apply IsS62.set_2 | apply IsS62.set_3 | apply IsS62.set_4 | apply IsS62.set_5) | exact HI441.out)⟩, ⟨by repeat (first | (with_reducible first | exact HB.out | apply below_alloc | apply pw_below_drewN | apply below_drew1 | refine below_set ?_ (IsS62.ge HI441.out)) | exact HB.out)⟩⟩
        case rest =>
          clear HC25
          try clear c1
          try clear c2
          try clear p2
          try clear c4
          try clear p4
          try clear q4
          try clear hx4
          try clear p6
          try clear c9
          try clear c9b0
          try clear c10
          try clear c10b0
          try clear c11
          try clear c11b0
          try clear c14
          try clear c15
          try clear c16
          try clear c17
          try clear c18
          try clear c19
          try clear c19b0
          try clear c19b1
          try clear c20
          try clear c29
          try clear c29b0
          try clear c29b1
          try clear hx442_0
          try clear p2
          try clear p4
          try clear p442
          try clear p6
          try clear q4
          try clear q442
          obtain ⟨kq, x62_24, x442000_24, x442001_24, x442002_24, x442003_24, x442004_24, x442005_24, rfl, HA, HJ24, HI441, HB⟩ := hcut
          cases kq with
          | zero => exact absurd HA.out (by simp [millwrightlaw09_LifeTurns.j2])
          | succ kj24 =>
            have H := HA.out
            clear HA
            simp only [millwrightlaw09_LifeTurns.j2] at H
            by_cases c32 : x62_24 = true
            · subst c32
              have H1 : (some false) = some true := by rw [if_pos rfl] at H; exact H
              clear H
              have H := H1
              clear H1
              exact absurd H (by simp)
            · replace c32 := Bool.eq_false_iff.mpr c32
              subst c32
              have H1 : (millwrightlaw09_LifeTurns.l1 kj24 t434 0 x442000_24 x442001_24 x442002_24 x442003_24 x442004_24 x442005_24) = some true := by rw [if_neg (show ¬ (false = true) by decide)] at H; exact H
              clear H
              have H := H1
              clear H1
              have H' := Aside0.mk H
              clear H
              go_wp2
              go_loopg [13] kj24 (fun kq v13 w' => ∃ (x13_3 : Int) (x442000_3 : Int) (x442001_3 : Int) (x442002_3 : Int) (x442003_3 : Int) (x442004_3 : Int) (x442005_3 : Int), v13 = .int .i64 x13_3 ∧ Aside0 (millwrightlaw09_LifeTurns.l1 kq t434 x13_3 x442000_3 x442001_3 x442002_3 x442003_3 x442004_3 x442005_3 = some true) ∧ Aside0 (kq ≤ kj24) ∧ Aside0 (IsS62 w w' g441 x442000_3 x442001_3 x442002_3 x442003_3 x442004_3 x442005_3) ∧ Aside0 (Below w.heap.size w w'))
              case atStart => exact ⟨(0), (x442000_24), (x442001_24), (x442002_24), (x442003_24), (x442004_24), (x442005_24), (by first | rfl | (simp; done) | (simp [*]; done)), H', ⟨Nat.le_refl _⟩, ⟨by repeat (first | (with_reducible first | exact HI441.out | apply IsS62.alloc | apply IsS62.drewN | apply IsS62.drew | apply IsS62.set_0 | apply IsS62.set_1 | apply IsS62.set_2 | apply IsS62.set_3 | apply IsS62.set_4 | apply IsS62.set_5) | exact HI441.out)⟩, ⟨by repeat (first | (with_reducible first | exact HB.out | apply below_alloc | apply pw_below_drewN | apply below_drew1 | refine below_set ?_ (IsS62.ge HI441.out)) | exact HB.out)⟩⟩
              case round =>
                clear H'
                try clear c1
                try clear c2
                try clear p2
                try clear c3
                try clear c4
                try clear p4
                try clear q4
                try clear hx4
                try clear p6
                try clear c9
                try clear c9b0
                try clear c10
                try clear c10b0
                try clear c11
                try clear c11b0
                try clear c14
                try clear c15
                try clear c16
                try clear c17
                try clear c18
                try clear c19
                try clear c19b0
                try clear c19b1
                try clear c20
                try clear c29
                try clear c29b0
                try clear c29b1
                try clear c32
                try clear hx442_0
                try clear p2
                try clear p4
                try clear p442
                try clear p6
                try clear q4
                try clear q442
                obtain ⟨x13_3, x442000_3, x442001_3, x442002_3, x442003_3, x442004_3, x442005_3, rfl, HA, HK3, HI441, HB⟩ := hrel
                cases gk with
                | zero => exact absurd HA.out (by simp [millwrightlaw09_LifeTurns.l1])
                | succ k3 =>
                  have H := HA.out
                  clear HA
                  simp only [millwrightlaw09_LifeTurns.l1] at H
                  by_cases c33 : x13_3 < 11
                  · rw [if_pos c33] at H
                    have c33b0 : decide (x13_3 < 11) = true := decide_eq_true c33
                    clear c33
                    replace H := Option.bind_eq_some_iff.mp H
                    obtain ⟨⟨t492, t493, t494, t495, t496, t497, t498⟩, A340, H⟩ := H
                    replace H : (if t492 = 8 then ((life_Life_State.f t493 t494 t495 t496 t497 t498).bind fun bt499 => (if bt499.1 = 7 then (millwrightlaw09_LifeTurns.l1 k3 t434 (wrap64 (x13_3 + 1)) bt499.2.1 bt499.2.2.1 bt499.2.2.2.1 bt499.2.2.2.2.1 bt499.2.2.2.2.2.1 bt499.2.2.2.2.2.2) else (some false))) else (some false)) = some true := H
                    have A34 := Aside0.mk A340
                    clear A340
                    by_cases c35 : t492 = 8
                    · rw [if_pos c35] at H
                      have c35b0 : (t492 == 8) = true := beq_iff_eq.mpr c35
                      have c35b1 : (t492 != 8) = false := bne_eq_false_iff_eq.mpr c35
                      clear c35
                      replace H := Option.bind_eq_some_iff.mp H
                      obtain ⟨⟨t499, t500, t501, t502, t503, t504, t505⟩, A360, H⟩ := H
                      replace H : (if t499 = 7 then (millwrightlaw09_LifeTurns.l1 k3 t434 (wrap64 (x13_3 + 1)) t500 t501 t502 t503 t504 t505) else (some false)) = some true := H
                      have A36 := Aside0.mk A360
                      clear A360
                      by_cases c37 : t499 = 7
                      · rw [if_pos c37] at H
                        have c37b0 : (t499 == 7) = true := beq_iff_eq.mpr c37
                        have c37b1 : (t499 != 7) = false := bne_eq_false_iff_eq.mpr c37
                        clear c37
                        have H' := Aside0.mk H
                        clear H
                        go_wp2_with (first | ((with_reducible refine gate_callee (f := 40) rfl ?_); refine goesL_ (some 69) rfl rfl Try.func40 (by kernel_rfl) rfl #[.pointer (some ⟨g441, 0, none⟩), .int .i64 x13_3] rfl (by (try simp only [List.map_toArray, List.map_cons, List.map_nil]); first | done | rfl | (simp only [List.length_drop, List.length_take]; rfl)) ?_; (with_reducible refine (millwrightlaw09_does.calls k3 g441 x442000_3 x442001_3 x442002_3 x442003_3 x442004_3 x442005_3 x13_3 t492 t493 t494 t495 t496 t497 t498 w _ ?side1 ?side2 A34.out).mono ?_); (case side1 => repeat (first | (with_reducible first | exact HI441.out | apply IsS62.alloc | apply IsS62.drewN | apply IsS62.drew | apply IsS62.set_0 | apply IsS62.set_1 | apply IsS62.set_2 | apply IsS62.set_3 | apply IsS62.set_4 | apply IsS62.set_5) | exact HI441.out)); (case side2 => repeat (first | (with_reducible first | exact HB.out | apply below_alloc | apply pw_below_drewN | apply below_drew1 | refine below_set ?_ (IsS62.ge HI441.out)) | exact HB.out)); rintro e w38 ⟨rfl, hi, hb, hk⟩; refine ⟨_, rfl, ?_⟩; have n0_ := Aside0.mk (hb); have n1_ := Aside0.mk (hi); clear HB; clear HI441; have HB := n0_; have HI441 := n1_; clear n0_ n1_; (try clear hb); (try clear hb2); (try clear hk); (try clear hi)) | (go_at_call 20; (with_reducible refine (life_Life_State.calls g441 t493 t494 t495 t496 t497 t498 t499 t500 t501 t502 t503 t504 t505 w _ ?side1 ?side2 A36.out).mono ?_); (case side1 => repeat (first | (with_reducible first | exact HI441.out | apply IsS62.alloc | apply IsS62.drewN | apply IsS62.drew | apply IsS62.set_0 | apply IsS62.set_1 | apply IsS62.set_2 | apply IsS62.set_3 | apply IsS62.set_4 | apply IsS62.set_5) | exact HI441.out)); (case side2 => repeat (first | (with_reducible first | exact HB.out | apply below_alloc | apply pw_below_drewN | apply below_drew1 | refine below_set ?_ (IsS62.ge HI441.out)) | exact HB.out)); rintro e w39 ⟨rfl, hi, hb, hk⟩; have n0_ := Aside0.mk (hb); have n1_ := Aside0.mk (hi); clear HB; clear HI441; have HB := n0_; have HI441 := n1_; clear n0_ n1_; (try clear hb); (try clear hb2); (try clear hk); (try clear hi)))
                        go_roundg k3
                        case measure => have := HJ5.out; have := HJ24.out; have := HK3.out; omega
                        case rel => exact ⟨(wrap64 (x13_3 + 1)), (t500), (t501), (t502), (t503), (t504), (t505), (by first | rfl | (simp; done) | (simp [*]; done)), H', ⟨by have := HJ5.out; have := HJ24.out; have := HK3.out; omega⟩, ⟨by repeat (first | (with_reducible first | exact HI441.out | apply IsS62.alloc | apply IsS62.drewN | apply IsS62.drew | apply IsS62.set_0 | apply IsS62.set_1 | apply IsS62.set_2 | apply IsS62.set_3 | apply IsS62.set_4 | apply IsS62.set_5) | exact HI441.out)⟩, ⟨by repeat (first | (with_reducible first | exact HB.out | apply below_alloc | apply pw_below_drewN | apply below_drew1 | refine below_set ?_ (IsS62.ge HI441.out)) | exact HB.out)⟩⟩
                      · rw [if_neg c37] at H
                        have c37b0 : (t499 == 7) = false := beq_eq_false_iff_ne.mpr c37
                        have c37b1 : (t499 != 7) = true := bne_iff_ne.mpr c37
                        exact absurd H (by simp)
                    · rw [if_neg c35] at H
                      have c35b0 : (t492 == 8) = false := beq_eq_false_iff_ne.mpr c35
                      have c35b1 : (t492 != 8) = true := bne_iff_ne.mpr c35
                      exact absurd H (by simp)
                  · rw [if_neg c33] at H
                    have c33b0 : decide (x13_3 < 11) = false := decide_eq_false c33
                    clear c33
                    by_cases c40 : t434 = true
                    · subst c40
                      have H1 : ((life_Life_Final.f x442000_3 x442001_3 x442002_3 x442003_3 x442004_3 x442005_3).bind fun bt485 => (some bt485.1)) = some true := by rw [if_pos rfl] at H; exact H
                      clear H
                      have H := H1
                      clear H1
                      replace H := Option.bind_eq_some_iff.mp H
                      obtain ⟨⟨t485, t486, t487, t488, t489, t490, t491⟩, A410, H⟩ := H
                      replace H : (some t485) = some true := H
                      have A41 := Aside0.mk A410
                      clear A410
                      have HT_ := Option.some.inj H
                      clear H
                      go_wp2_with (first | (go_at_call 42; (with_reducible refine (life_Life_Final.calls g441 x442000_3 x442001_3 x442002_3 x442003_3 x442004_3 x442005_3 t485 t486 t487 t488 t489 t490 t491 w _ ?side1 ?side2 A41.out).mono ?_); (case side1 => repeat (first | (with_reducible first | exact HI441.out | apply IsS62.alloc | apply IsS62.drewN | apply IsS62.drew | apply IsS62.set_0 | apply IsS62.set_1 | apply IsS62.set_2 | apply IsS62.set_3 | apply IsS62.set_4 | apply IsS62.set_5) | exact HI441.out)); (case side2 => repeat (first | (with_reducible first | exact HB.out | apply below_alloc | apply pw_below_drewN | apply below_drew1 | refine below_set ?_ (IsS62.ge HI441.out)) | exact HB.out)); rintro e w42 ⟨rfl, hi, hb, hk⟩; have n0_ := Aside0.mk (hb); have n1_ := Aside0.mk (hi); clear HB; clear HI441; have HB := n0_; have HI441 := n1_; clear n0_ n1_; (try clear hb); (try clear hb2); (try clear hk); (try clear hi)))
                      go_ret
                      exact ⟨by first | rfl | (simp [errW_none, errW_some] <;> rfl) | (simp [*, errW_none, errW_some] <;> rfl), by repeat (first | (with_reducible first | exact HB.out | apply below_alloc | apply pw_below_drewN | apply below_drew1 | refine below_set ?_ (IsS62.ge HI441.out)) | exact HB.out)⟩
                    · replace c40 := Bool.eq_false_iff.mpr c40
                      subst c40
                      have H1 : (some false) = some true := by rw [if_neg (show ¬ (false = true) by decide)] at H; exact H
                      clear H
                      have H := H1
                      clear H1
                      exact absurd H (by simp)

/-- THE ONE PURE STATEMENT of millwrightlaw09_LifeTurns: yours. -/
def millwrightlaw09_LifeTurns.Pure : Prop := ∀ (a0 : Int) (a1 : Int) (l2 : List Int), (Lit.int .i64 a0).wf = true → (Lit.int .i64 a1).wf = true → l2.length ≤ maxLen → l2.length * 1 ≤ 140737488351232 → (∀ x ∈ l2, (Lit.int .u8 x).wf = true) → ∃ k, millwrightlaw09_LifeTurns.f k a0 a1 l2 = some true
theorem millwrightlaw09_LifeTurns.walk (P : millwrightlaw09_LifeTurns.Pure) (a0 : Int) (a1 : Int) (a2 : Option Addr) (len2 cap2 : Nat) (z2 : List Int) (w : World) (w0 : (Lit.int .i64 a0).wf = true) (w1 : (Lit.int .i64 a1).wf = true) (w2 : (a2 = none ∧ len2 = 0 ∧ cap2 = 0 ∧ z2 = []) ∨ ∃ x, a2 = some x ∧ len2 ≤ cap2 ∧ cap2 ≤ maxLen ∧ z2.length = cap2 ∧ (∀ i, i < z2.length → w.cell? (x.add i) = some (.int .u8 (z2.getD i 0))) ∧ ∀ n ∈ z2, (Lit.int .u8 n).wf = true) (y2 : len2 * 1 ≤ 140737488351232) :
    Calls Try.prog 14 #[.int .i64 a0, .int .i64 a1, .slice a2 len2 cap2] w fun e w' => e = .returned (.bool true) ∧ Below w.heap.size w w' := by
  obtain ⟨l2, rfl, hr2, hm2, hw2, hc2⟩ := ReadsInt.ofRowC w2
  obtain ⟨k, h⟩ := P a0 a1 l2 w0 w1 hm2 y2 hw2
  refine (millwrightlaw09_LifeTurns.calls k a0 a1 _ _ l2 w (Kd.C_of_reads (d := (0 : Int)) (h1 := fun _ => rfl) hr2) hc2 h).mono ?_
  rintro e w' ⟨rfl, hd⟩
  exact ⟨rfl, hd⟩

end Go.Proofs.Ytkldfjlbgmppfab.MLifeTurns
