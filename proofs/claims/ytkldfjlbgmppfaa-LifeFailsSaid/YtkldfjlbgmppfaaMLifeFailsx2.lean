-- Written by a program of this session out of Lean's own print of the program. Not trusted: Lean checks it.
import Derived.Test.YtkldfjlbgmppfaaMLifeFailsx0
import Derived.Test.YtkldfjlbgmppfaaMLifeFailsx1
namespace Go.Proofs.Ytkldfjlbgmppfaa.MLifeFails
open Go.RowKit Go.Proofs.YtkldfjlbgmppfaaW.PrintWords Go.Proofs.YtkldfjlbgmppfaaW.PrintLast Go.Proofs.YtkldfjlbgmppfaaW.PrintMore
attribute [local go_sem] max2_int min2_int max_two min_two max_three min_three max_four min_four   -- for this text's walks alone
set_option linter.unusedVariables false
set_option linter.unusedSimpArgs false

/-! ### life_Life_Stopped: function 40 -/
def life_Life_Stopped.f (s0_0 : Int) (s0_1 : Int) (s0_2 : Int) (s0_3 : Int) (s0_4 : Int) (s0_5 : Int) : Option (Int × Int × Int × Int × Int × Int × Int) := some (s0_3, s0_0, s0_1, s0_2, s0_3, s0_4, s0_5)
set_option maxHeartbeats 8000000 in
set_option maxRecDepth 100000 in
theorem life_Life_Stopped.calls (g : Nat) (s0_0 : Int) (s0_1 : Int) (s0_2 : Int) (s0_3 : Int) (s0_4 : Int) (s0_5 : Int) (r1 : Int) (r2 : Int) (r3 : Int) (r4 : Int) (r5 : Int) (r6 : Int) (r7 : Int) (w0 w : World) (hI : IsS79 w0 w g s0_0 s0_1 s0_2 s0_3 s0_4 s0_5) (hB : Below w0.heap.size w0 w) (h : life_Life_Stopped.f s0_0 s0_1 s0_2 s0_3 s0_4 s0_5 = some (r1, r2, r3, r4, r5, r6, r7)) :
    Calls Try.prog 40 #[.pointer (some ⟨g, 0, none⟩)] w fun e w' => e = .returned (.int .i64 r1) ∧ IsS79 w0 w' g r2 r3 r4 r5 r6 r7 ∧ Below w0.heap.size w0 w' ∧ KeepBut w w' g none := by
  have HI0 := Aside0.mk hI
  have HK := Aside0.mk (KeepBut.refl w g none)
  have HL := Aside0.mk hB.size
  clear hI
  have HW0 := Aside0.mk hB.size
  have HB := Aside0.mk hB
  clear hB
  have H : (some (s0_3, s0_0, s0_1, s0_2, s0_3, s0_4, s0_5)) = some (r1, r2, r3, r4, r5, r6, r7) := h
  clear h
  simp only [Option.some.injEq, Prod.mk.injEq] at H
  obtain ⟨rfl, rfl, rfl, rfl, rfl, rfl, rfl⟩ := H
  obtain ⟨HGz2, hgz2⟩ := HI0.out
  have hcz2_0 := cellS79_0 HGz2
  have hcz2_1 := cellS79_1 HGz2
  have hcz2_2 := cellS79_2 HGz2
  have hcz2_3 := cellS79_3 HGz2
  have hcz2_4 := cellS79_4 HGz2
  have hcz2_5 := cellS79_5 HGz2
  have hfz2_0 := blk_frozen HGz2 0
  have hfz2_1 := blk_frozen HGz2 1
  have hfz2_2 := blk_frozen HGz2 2
  have hfz2_3 := blk_frozen HGz2 3
  have hfz2_4 := blk_frozen HGz2 4
  have hfz2_5 := blk_frozen HGz2 5
  clear HGz2 hgz2
  go_enter Try.func40, Try.ntmps40
  go_wp2
  go_ret
  exact ⟨by first | rfl | (simp [errW_none, errW_some] <;> rfl) | (simp [*, errW_none, errW_some] <;> rfl), by repeat (first | (with_reducible first | exact HI0.out | apply IsS79.alloc | apply IsS79.drewN | apply IsS79.drew | apply IsS79.set_0 | apply IsS79.set_1 | apply IsS79.set_2 | apply IsS79.set_3 | apply IsS79.set_4 | apply IsS79.set_5) | exact HI0.out), by repeat (first | (with_reducible first | exact HB.out | apply below_alloc | apply pw_below_drewN | apply below_drew1 | refine below_set ?_ (IsS79.ge HI0.out)) | exact HB.out), by repeat (first | (with_reducible first | exact HK.out | apply KeepBut.set_ | apply keep_drewN | apply keep_drew | apply keep_alloc) | exact HK.out)⟩

/-! ### life_Life_Epoch: function 41 -/
def life_Life_Epoch.f (s0_0 : Int) (s0_1 : Int) (s0_2 : Int) (s0_3 : Int) (s0_4 : Int) (s0_5 : Int) : Option (Int × Int × Int × Int × Int × Int × Int) := some (s0_1, s0_0, s0_1, s0_2, s0_3, s0_4, s0_5)
set_option maxHeartbeats 8000000 in
set_option maxRecDepth 100000 in
theorem life_Life_Epoch.calls (g : Nat) (s0_0 : Int) (s0_1 : Int) (s0_2 : Int) (s0_3 : Int) (s0_4 : Int) (s0_5 : Int) (r1 : Int) (r2 : Int) (r3 : Int) (r4 : Int) (r5 : Int) (r6 : Int) (r7 : Int) (w0 w : World) (hI : IsS79 w0 w g s0_0 s0_1 s0_2 s0_3 s0_4 s0_5) (hB : Below w0.heap.size w0 w) (h : life_Life_Epoch.f s0_0 s0_1 s0_2 s0_3 s0_4 s0_5 = some (r1, r2, r3, r4, r5, r6, r7)) :
    Calls Try.prog 41 #[.pointer (some ⟨g, 0, none⟩)] w fun e w' => e = .returned (.int .i64 r1) ∧ IsS79 w0 w' g r2 r3 r4 r5 r6 r7 ∧ Below w0.heap.size w0 w' ∧ KeepBut w w' g none := by
  have HI0 := Aside0.mk hI
  have HK := Aside0.mk (KeepBut.refl w g none)
  have HL := Aside0.mk hB.size
  clear hI
  have HW0 := Aside0.mk hB.size
  have HB := Aside0.mk hB
  clear hB
  have H : (some (s0_1, s0_0, s0_1, s0_2, s0_3, s0_4, s0_5)) = some (r1, r2, r3, r4, r5, r6, r7) := h
  clear h
  simp only [Option.some.injEq, Prod.mk.injEq] at H
  obtain ⟨rfl, rfl, rfl, rfl, rfl, rfl, rfl⟩ := H
  obtain ⟨HGz2, hgz2⟩ := HI0.out
  have hcz2_0 := cellS79_0 HGz2
  have hcz2_1 := cellS79_1 HGz2
  have hcz2_2 := cellS79_2 HGz2
  have hcz2_3 := cellS79_3 HGz2
  have hcz2_4 := cellS79_4 HGz2
  have hcz2_5 := cellS79_5 HGz2
  have hfz2_0 := blk_frozen HGz2 0
  have hfz2_1 := blk_frozen HGz2 1
  have hfz2_2 := blk_frozen HGz2 2
  have hfz2_3 := blk_frozen HGz2 3
  have hfz2_4 := blk_frozen HGz2 4
  have hfz2_5 := blk_frozen HGz2 5
  clear HGz2 hgz2
  go_enter Try.func41, Try.ntmps41
  go_wp2
  go_ret
  exact ⟨by first | rfl | (simp [errW_none, errW_some] <;> rfl) | (simp [*, errW_none, errW_some] <;> rfl), by repeat (first | (with_reducible first | exact HI0.out | apply IsS79.alloc | apply IsS79.drewN | apply IsS79.drew | apply IsS79.set_0 | apply IsS79.set_1 | apply IsS79.set_2 | apply IsS79.set_3 | apply IsS79.set_4 | apply IsS79.set_5) | exact HI0.out), by repeat (first | (with_reducible first | exact HB.out | apply below_alloc | apply pw_below_drewN | apply below_drew1 | refine below_set ?_ (IsS79.ge HI0.out)) | exact HB.out), by repeat (first | (with_reducible first | exact HK.out | apply KeepBut.set_ | apply keep_drewN | apply keep_drew | apply keep_alloc) | exact HK.out)⟩

/-! ### life_Life_Final: function 42 -/
def life_Life_Final.f (s0_0 : Int) (s0_1 : Int) (s0_2 : Int) (s0_3 : Int) (s0_4 : Int) (s0_5 : Int) : Option (Bool × Int × Int × Int × Int × Int × Int) := some (decide (s0_0 ≥ 5), s0_0, s0_1, s0_2, s0_3, s0_4, s0_5)
set_option maxHeartbeats 8000000 in
set_option maxRecDepth 100000 in
theorem life_Life_Final.calls (g : Nat) (s0_0 : Int) (s0_1 : Int) (s0_2 : Int) (s0_3 : Int) (s0_4 : Int) (s0_5 : Int) (r1 : Bool) (r2 : Int) (r3 : Int) (r4 : Int) (r5 : Int) (r6 : Int) (r7 : Int) (w0 w : World) (hI : IsS79 w0 w g s0_0 s0_1 s0_2 s0_3 s0_4 s0_5) (hB : Below w0.heap.size w0 w) (h : life_Life_Final.f s0_0 s0_1 s0_2 s0_3 s0_4 s0_5 = some (r1, r2, r3, r4, r5, r6, r7)) :
    Calls Try.prog 42 #[.pointer (some ⟨g, 0, none⟩)] w fun e w' => e = .returned (.bool r1) ∧ IsS79 w0 w' g r2 r3 r4 r5 r6 r7 ∧ Below w0.heap.size w0 w' ∧ KeepBut w w' g none := by
  have HI0 := Aside0.mk hI
  have HK := Aside0.mk (KeepBut.refl w g none)
  have HL := Aside0.mk hB.size
  clear hI
  have HW0 := Aside0.mk hB.size
  have HB := Aside0.mk hB
  clear hB
  have H : (some (decide (s0_0 ≥ 5), s0_0, s0_1, s0_2, s0_3, s0_4, s0_5)) = some (r1, r2, r3, r4, r5, r6, r7) := h
  clear h
  simp only [Option.some.injEq, Prod.mk.injEq] at H
  obtain ⟨rfl, rfl, rfl, rfl, rfl, rfl, rfl⟩ := H
  obtain ⟨HGz2, hgz2⟩ := HI0.out
  have hcz2_0 := cellS79_0 HGz2
  have hcz2_1 := cellS79_1 HGz2
  have hcz2_2 := cellS79_2 HGz2
  have hcz2_3 := cellS79_3 HGz2
  have hcz2_4 := cellS79_4 HGz2
  have hcz2_5 := cellS79_5 HGz2
  have hfz2_0 := blk_frozen HGz2 0
  have hfz2_1 := blk_frozen HGz2 1
  have hfz2_2 := blk_frozen HGz2 2
  have hfz2_3 := blk_frozen HGz2 3
  have hfz2_4 := blk_frozen HGz2 4
  have hfz2_5 := blk_frozen HGz2 5
  clear HGz2 hgz2
  go_enter Try.func42, Try.ntmps42
  go_wp2
  go_ret
  exact ⟨by first | rfl | (simp [errW_none, errW_some] <;> rfl) | (simp [*, errW_none, errW_some] <;> rfl), by repeat (first | (with_reducible first | exact HI0.out | apply IsS79.alloc | apply IsS79.drewN | apply IsS79.drew | apply IsS79.set_0 | apply IsS79.set_1 | apply IsS79.set_2 | apply IsS79.set_3 | apply IsS79.set_4 | apply IsS79.set_5) | exact HI0.out), by repeat (first | (with_reducible first | exact HB.out | apply below_alloc | apply pw_below_drewN | apply below_drew1 | refine below_set ?_ (IsS79.ge HI0.out)) | exact HB.out), by repeat (first | (with_reducible first | exact HK.out | apply KeepBut.set_ | apply keep_drewN | apply keep_drew | apply keep_alloc) | exact HK.out)⟩

/-! ### life_Life_Right: function 49 -/
def life_Life_Right.f (s0_0 : Int) (s0_1 : Int) (s0_2 : Int) (s0_3 : Int) (s0_4 : Int) (s0_5 : Int) (a1 : Int) : Option (Int × Int × Int × Int × Int × Int × Int) := if s0_0 = 2 then (if a1 = s0_1 then (some (0, s0_0, s0_1, s0_2, s0_3, s0_4, s0_5)) else (some (7, s0_0, s0_1, s0_2, s0_3, s0_4, s0_5))) else (some (7, s0_0, s0_1, s0_2, s0_3, s0_4, s0_5))
set_option maxHeartbeats 8000000 in
set_option maxRecDepth 100000 in
theorem life_Life_Right.calls (g : Nat) (s0_0 : Int) (s0_1 : Int) (s0_2 : Int) (s0_3 : Int) (s0_4 : Int) (s0_5 : Int) (a1 : Int) (r1 : Int) (r2 : Int) (r3 : Int) (r4 : Int) (r5 : Int) (r6 : Int) (r7 : Int) (w0 w : World) (hI : IsS79 w0 w g s0_0 s0_1 s0_2 s0_3 s0_4 s0_5) (hB : Below w0.heap.size w0 w) (h : life_Life_Right.f s0_0 s0_1 s0_2 s0_3 s0_4 s0_5 a1 = some (r1, r2, r3, r4, r5, r6, r7)) :
    Calls Try.prog 49 #[.pointer (some ⟨g, 0, none⟩), .int .i64 a1] w fun e w' => e = .returned (.int .i64 r1) ∧ IsS79 w0 w' g r2 r3 r4 r5 r6 r7 ∧ Below w0.heap.size w0 w' ∧ KeepBut w w' g none := by
  have HI0 := Aside0.mk hI
  have HK := Aside0.mk (KeepBut.refl w g none)
  have HL := Aside0.mk hB.size
  clear hI
  have HW0 := Aside0.mk hB.size
  have HB := Aside0.mk hB
  clear hB
  have H : (if s0_0 = 2 then (if a1 = s0_1 then (some (0, s0_0, s0_1, s0_2, s0_3, s0_4, s0_5)) else (some (7, s0_0, s0_1, s0_2, s0_3, s0_4, s0_5))) else (some (7, s0_0, s0_1, s0_2, s0_3, s0_4, s0_5))) = some (r1, r2, r3, r4, r5, r6, r7) := h
  clear h
  by_cases c3 : s0_0 = 2
  · rw [if_pos c3] at H
    have c3b0 : (s0_0 == 2) = true := beq_iff_eq.mpr c3
    have c3b1 : (s0_0 != 2) = false := bne_eq_false_iff_eq.mpr c3
    clear c3
    by_cases c4 : a1 = s0_1
    · rw [if_pos c4] at H
      have c4b0 : (a1 == s0_1) = true := beq_iff_eq.mpr c4
      have c4b1 : (a1 != s0_1) = false := bne_eq_false_iff_eq.mpr c4
      clear c4
      simp only [Option.some.injEq, Prod.mk.injEq] at H
      obtain ⟨rfl, rfl, rfl, rfl, rfl, rfl, rfl⟩ := H
      obtain ⟨HGz5, hgz5⟩ := HI0.out
      have hcz5_0 := cellS79_0 HGz5
      have hcz5_1 := cellS79_1 HGz5
      have hcz5_2 := cellS79_2 HGz5
      have hcz5_3 := cellS79_3 HGz5
      have hcz5_4 := cellS79_4 HGz5
      have hcz5_5 := cellS79_5 HGz5
      have hfz5_0 := blk_frozen HGz5 0
      have hfz5_1 := blk_frozen HGz5 1
      have hfz5_2 := blk_frozen HGz5 2
      have hfz5_3 := blk_frozen HGz5 3
      have hfz5_4 := blk_frozen HGz5 4
      have hfz5_5 := blk_frozen HGz5 5
      clear HGz5 hgz5
      go_enter Try.func49, Try.ntmps49
      go_wp2
      go_ret
      exact ⟨by first | rfl | (simp [errW_none, errW_some] <;> rfl) | (simp [*, errW_none, errW_some] <;> rfl), by repeat (first | (with_reducible first | exact HI0.out | apply IsS79.alloc | apply IsS79.drewN | apply IsS79.drew | apply IsS79.set_0 | apply IsS79.set_1 | apply IsS79.set_2 | apply IsS79.set_3 | apply IsS79.set_4 | apply IsS79.set_5) | exact HI0.out), by repeat (first | (with_reducible first | exact HB.out | apply below_alloc | apply pw_below_drewN | apply below_drew1 | refine below_set ?_ (IsS79.ge HI0.out)) | exact HB.out), by repeat (first | (with_reducible first | exact HK.out | apply KeepBut.set_ | apply keep_drewN | apply keep_drew | apply keep_alloc) | exact HK.out)⟩
    · rw [if_neg c4] at H
      have c4b0 : (a1 == s0_1) = false := beq_eq_false_iff_ne.mpr c4
      have c4b1 : (a1 != s0_1) = true := bne_iff_ne.mpr c4
      simp only [Option.some.injEq, Prod.mk.injEq] at H
      obtain ⟨rfl, rfl, rfl, rfl, rfl, rfl, rfl⟩ := H
      obtain ⟨HGz6, hgz6⟩ := HI0.out
      have hcz6_0 := cellS79_0 HGz6
      have hcz6_1 := cellS79_1 HGz6
      have hcz6_2 := cellS79_2 HGz6
      have hcz6_3 := cellS79_3 HGz6
      have hcz6_4 := cellS79_4 HGz6
      have hcz6_5 := cellS79_5 HGz6
      have hfz6_0 := blk_frozen HGz6 0
      have hfz6_1 := blk_frozen HGz6 1
      have hfz6_2 := blk_frozen HGz6 2
      have hfz6_3 := blk_frozen HGz6 3
      have hfz6_4 := blk_frozen HGz6 4
      have hfz6_5 := blk_frozen HGz6 5
      clear HGz6 hgz6
      go_enter Try.func49, Try.ntmps49
      go_wp2
      go_ret
      exact ⟨by first | rfl | (simp [errW_none, errW_some] <;> rfl) | (simp [*, errW_none, errW_some] <;> rfl), by repeat (first | (with_reducible first | exact HI0.out | apply IsS79.alloc | apply IsS79.drewN | apply IsS79.drew | apply IsS79.set_0 | apply IsS79.set_1 | apply IsS79.set_2 | apply IsS79.set_3 | apply IsS79.set_4 | apply IsS79.set_5) | exact HI0.out), by repeat (first | (with_reducible first | exact HB.out | apply below_alloc | apply pw_below_drewN | apply below_drew1 | refine below_set ?_ (IsS79.ge HI0.out)) | exact HB.out), by repeat (first | (with_reducible first | exact HK.out | apply KeepBut.set_ | apply keep_drewN | apply keep_drew | apply keep_alloc) | exact HK.out)⟩
  · rw [if_neg c3] at H
    have c3b0 : (s0_0 == 2) = false := beq_eq_false_iff_ne.mpr c3
    have c3b1 : (s0_0 != 2) = true := bne_iff_ne.mpr c3
    simp only [Option.some.injEq, Prod.mk.injEq] at H
    obtain ⟨rfl, rfl, rfl, rfl, rfl, rfl, rfl⟩ := H
    obtain ⟨HGz7, hgz7⟩ := HI0.out
    have hcz7_0 := cellS79_0 HGz7
    have hcz7_1 := cellS79_1 HGz7
    have hcz7_2 := cellS79_2 HGz7
    have hcz7_3 := cellS79_3 HGz7
    have hcz7_4 := cellS79_4 HGz7
    have hcz7_5 := cellS79_5 HGz7
    have hfz7_0 := blk_frozen HGz7 0
    have hfz7_1 := blk_frozen HGz7 1
    have hfz7_2 := blk_frozen HGz7 2
    have hfz7_3 := blk_frozen HGz7 3
    have hfz7_4 := blk_frozen HGz7 4
    have hfz7_5 := blk_frozen HGz7 5
    clear HGz7 hgz7
    go_enter Try.func49, Try.ntmps49
    go_wp2
    go_ret
    exact ⟨by first | rfl | (simp [errW_none, errW_some] <;> rfl) | (simp [*, errW_none, errW_some] <;> rfl), by repeat (first | (with_reducible first | exact HI0.out | apply IsS79.alloc | apply IsS79.drewN | apply IsS79.drew | apply IsS79.set_0 | apply IsS79.set_1 | apply IsS79.set_2 | apply IsS79.set_3 | apply IsS79.set_4 | apply IsS79.set_5) | exact HI0.out), by repeat (first | (with_reducible first | exact HB.out | apply below_alloc | apply pw_below_drewN | apply below_drew1 | refine below_set ?_ (IsS79.ge HI0.out)) | exact HB.out), by repeat (first | (with_reducible first | exact HK.out | apply KeepBut.set_ | apply keep_drewN | apply keep_drew | apply keep_alloc) | exact HK.out)⟩

/-! ### millwrightlaw09_shown: function 31 -/
def millwrightlaw09_shown.f (k : Nat)  : Option (Bool) := (life_New.f 2 1).bind fun bt158 => ((life_Life_Start.f k bt158.1 bt158.2.1 bt158.2.2.1 bt158.2.2.2.1 bt158.2.2.2.2.1 bt158.2.2.2.2.2).bind fun bt165 => ((life_Life_Want.f k bt165.2.1 bt165.2.2.1 bt165.2.2.2.1 bt165.2.2.2.2.1 bt165.2.2.2.2.2.1 bt165.2.2.2.2.2.2).bind fun bt172 => ((life_Life_Start.f k bt172.2.1 bt172.2.2.1 bt172.2.2.2.1 bt172.2.2.2.2.1 bt172.2.2.2.2.2.1 bt172.2.2.2.2.2.2).bind fun bt179 => ((life_Life_Stop.f k bt179.2.1 bt179.2.2.1 bt179.2.2.2.1 bt179.2.2.2.2.1 bt179.2.2.2.2.2.1 bt179.2.2.2.2.2.2).bind fun bt186 => ((life_Life_Start.f k bt186.2.1 bt186.2.2.1 bt186.2.2.2.1 bt186.2.2.2.2.1 bt186.2.2.2.2.2.1 bt186.2.2.2.2.2.2).bind fun bt193 => ((life_Life_Stop.f k bt193.2.1 bt193.2.2.1 bt193.2.2.2.1 bt193.2.2.2.2.1 bt193.2.2.2.2.2.1 bt193.2.2.2.2.2.2).bind fun bt200 => ((life_Life_Right.f bt200.2.1 bt200.2.2.1 bt200.2.2.2.1 bt200.2.2.2.2.1 bt200.2.2.2.2.2.1 bt200.2.2.2.2.2.2 2).bind fun bt207 => ((life_Life_Right.f bt207.2.1 bt207.2.2.1 bt207.2.2.2.1 bt207.2.2.2.2.1 bt207.2.2.2.2.2.1 bt207.2.2.2.2.2.2 1).bind fun bt214 => ((life_Life_Miss.f k bt214.2.1 bt214.2.2.1 bt214.2.2.2.1 bt214.2.2.2.2.1 bt214.2.2.2.2.2.1 bt214.2.2.2.2.2.2).bind fun bt221 => ((life_Life_State.f bt221.2.1 bt221.2.2.1 bt221.2.2.2.1 bt221.2.2.2.2.1 bt221.2.2.2.2.2.1 bt221.2.2.2.2.2.2).bind fun bt228 => ((life_Life_Rested.f k bt228.2.1 bt228.2.2.1 bt228.2.2.2.1 bt228.2.2.2.2.1 bt228.2.2.2.2.2.1 bt228.2.2.2.2.2.2).bind fun bt235 => ((life_Life_Start.f k bt235.2.1 bt235.2.2.1 bt235.2.2.2.1 bt235.2.2.2.2.1 bt235.2.2.2.2.2.1 bt235.2.2.2.2.2.2).bind fun bt242 => ((life_Life_Miss.f k bt242.2.1 bt242.2.2.1 bt242.2.2.2.1 bt242.2.2.2.2.1 bt242.2.2.2.2.2.1 bt242.2.2.2.2.2.2).bind fun bt249 => (if bt165.1 = 8 then (if bt172.1 = 0 then (if bt179.1 = 0 then (if bt186.1 = 0 then (if bt193.1 = 0 then (if bt200.1 = 4 then (if bt207.1 = 0 then (if bt214.1 = 7 then (if bt221.1 = 0 then (if bt228.1 = 4 then ((life_Life_State.f bt249.2.1 bt249.2.2.1 bt249.2.2.2.1 bt249.2.2.2.2.1 bt249.2.2.2.2.2.1 bt249.2.2.2.2.2.2).bind fun bt256 => (if bt256.1 = 6 then ((life_Life_Final.f bt256.2.1 bt256.2.2.1 bt256.2.2.2.1 bt256.2.2.2.2.1 bt256.2.2.2.2.2.1 bt256.2.2.2.2.2.2).bind fun bt263 => (if bt263.1 = true then ((life_Life_Epoch.f bt263.2.1 bt263.2.2.1 bt263.2.2.2.1 bt263.2.2.2.2.1 bt263.2.2.2.2.2.1 bt263.2.2.2.2.2.2).bind fun bt270 => (if bt270.1 = 3 then ((life_Life_Stopped.f bt270.2.1 bt270.2.2.1 bt270.2.2.2.1 bt270.2.2.2.2.1 bt270.2.2.2.2.2.1 bt270.2.2.2.2.2.2).bind fun bt277 => (if bt277.1 = 1 then ((life_Life_Missed.f bt277.2.1 bt277.2.2.1 bt277.2.2.2.1 bt277.2.2.2.2.1 bt277.2.2.2.2.2.1 bt277.2.2.2.2.2.2).bind fun bt284 => (some (bt284.1 == 2))) else (some false))) else (some false))) else (some false))) else (some false))) else (some false)) else (some false)) else (some false)) else (some false)) else (some false)) else (some false)) else (some false)) else (some false)) else (some false)) else (some false)))))))))))))))
theorem millwrightlaw09_shown.mono : ∀ k, LeO (millwrightlaw09_shown.f k ) (millwrightlaw09_shown.f (k + 1) ) := by
  intro  k
  unfold millwrightlaw09_shown.f
  repeat' first
      | (with_reducible exact life_Life_Miss.mono _ _ _ _ _ _ _)
      | (with_reducible exact life_Life_Rested.mono _ _ _ _ _ _ _)
      | (with_reducible exact life_Life_Start.mono _ _ _ _ _ _ _)
      | (with_reducible exact life_Life_Stop.mono _ _ _ _ _ _ _)
      | (with_reducible exact life_Life_Want.mono _ _ _ _ _ _ _)
      | (with_reducible exact LeO.refl _)
      | (with_reducible exact LeO.none _)
      | (with_reducible refine LeO.ite ?_ ?_)
      | (with_reducible refine LeO.bind ?_ (fun _ => ?_))
      | exact life_Life_Miss.mono _ _ _ _ _ _ _
      | exact life_Life_Rested.mono _ _ _ _ _ _ _
      | exact life_Life_Start.mono _ _ _ _ _ _ _
      | exact life_Life_Stop.mono _ _ _ _ _ _ _
      | exact life_Life_Want.mono _ _ _ _ _ _ _
      | exact LeO.none _
      | refine LeO.ite ?_ ?_
      | refine LeO.bind ?_ (fun _ => ?_)
set_option maxHeartbeats 8000000 in
set_option maxRecDepth 100000 in
theorem millwrightlaw09_shown.callsT (k : Nat)  (w : World) (h : millwrightlaw09_shown.f k  = some true) :
    Calls Try.prog 31 #[] w fun e w' => e = .returned (.bool true) ∧ Below w.heap.size w w' := by
  have HB := Aside0.mk (Below.refl w.heap.size w)
  have H : ((life_New.f 2 1).bind fun bt158 => ((life_Life_Start.f k bt158.1 bt158.2.1 bt158.2.2.1 bt158.2.2.2.1 bt158.2.2.2.2.1 bt158.2.2.2.2.2).bind fun bt165 => ((life_Life_Want.f k bt165.2.1 bt165.2.2.1 bt165.2.2.2.1 bt165.2.2.2.2.1 bt165.2.2.2.2.2.1 bt165.2.2.2.2.2.2).bind fun bt172 => ((life_Life_Start.f k bt172.2.1 bt172.2.2.1 bt172.2.2.2.1 bt172.2.2.2.2.1 bt172.2.2.2.2.2.1 bt172.2.2.2.2.2.2).bind fun bt179 => ((life_Life_Stop.f k bt179.2.1 bt179.2.2.1 bt179.2.2.2.1 bt179.2.2.2.2.1 bt179.2.2.2.2.2.1 bt179.2.2.2.2.2.2).bind fun bt186 => ((life_Life_Start.f k bt186.2.1 bt186.2.2.1 bt186.2.2.2.1 bt186.2.2.2.2.1 bt186.2.2.2.2.2.1 bt186.2.2.2.2.2.2).bind fun bt193 => ((life_Life_Stop.f k bt193.2.1 bt193.2.2.1 bt193.2.2.2.1 bt193.2.2.2.2.1 bt193.2.2.2.2.2.1 bt193.2.2.2.2.2.2).bind fun bt200 => ((life_Life_Right.f bt200.2.1 bt200.2.2.1 bt200.2.2.2.1 bt200.2.2.2.2.1 bt200.2.2.2.2.2.1 bt200.2.2.2.2.2.2 2).bind fun bt207 => ((life_Life_Right.f bt207.2.1 bt207.2.2.1 bt207.2.2.2.1 bt207.2.2.2.2.1 bt207.2.2.2.2.2.1 bt207.2.2.2.2.2.2 1).bind fun bt214 => ((life_Life_Miss.f k bt214.2.1 bt214.2.2.1 bt214.2.2.2.1 bt214.2.2.2.2.1 bt214.2.2.2.2.2.1 bt214.2.2.2.2.2.2).bind fun bt221 => ((life_Life_State.f bt221.2.1 bt221.2.2.1 bt221.2.2.2.1 bt221.2.2.2.2.1 bt221.2.2.2.2.2.1 bt221.2.2.2.2.2.2).bind fun bt228 => ((life_Life_Rested.f k bt228.2.1 bt228.2.2.1 bt228.2.2.2.1 bt228.2.2.2.2.1 bt228.2.2.2.2.2.1 bt228.2.2.2.2.2.2).bind fun bt235 => ((life_Life_Start.f k bt235.2.1 bt235.2.2.1 bt235.2.2.2.1 bt235.2.2.2.2.1 bt235.2.2.2.2.2.1 bt235.2.2.2.2.2.2).bind fun bt242 => ((life_Life_Miss.f k bt242.2.1 bt242.2.2.1 bt242.2.2.2.1 bt242.2.2.2.2.1 bt242.2.2.2.2.2.1 bt242.2.2.2.2.2.2).bind fun bt249 => (if bt165.1 = 8 then (if bt172.1 = 0 then (if bt179.1 = 0 then (if bt186.1 = 0 then (if bt193.1 = 0 then (if bt200.1 = 4 then (if bt207.1 = 0 then (if bt214.1 = 7 then (if bt221.1 = 0 then (if bt228.1 = 4 then ((life_Life_State.f bt249.2.1 bt249.2.2.1 bt249.2.2.2.1 bt249.2.2.2.2.1 bt249.2.2.2.2.2.1 bt249.2.2.2.2.2.2).bind fun bt256 => (if bt256.1 = 6 then ((life_Life_Final.f bt256.2.1 bt256.2.2.1 bt256.2.2.2.1 bt256.2.2.2.2.1 bt256.2.2.2.2.2.1 bt256.2.2.2.2.2.2).bind fun bt263 => (if bt263.1 = true then ((life_Life_Epoch.f bt263.2.1 bt263.2.2.1 bt263.2.2.2.1 bt263.2.2.2.2.1 bt263.2.2.2.2.2.1 bt263.2.2.2.2.2.2).bind fun bt270 => (if bt270.1 = 3 then ((life_Life_Stopped.f bt270.2.1 bt270.2.2.1 bt270.2.2.2.1 bt270.2.2.2.2.1 bt270.2.2.2.2.2.1 bt270.2.2.2.2.2.2).bind fun bt277 => (if bt277.1 = 1 then ((life_Life_Missed.f bt277.2.1 bt277.2.2.1 bt277.2.2.2.1 bt277.2.2.2.2.1 bt277.2.2.2.2.2.1 bt277.2.2.2.2.2.2).bind fun bt284 => (some (bt284.1 == 2))) else (some false))) else (some false))) else (some false))) else (some false))) else (some false)) else (some false)) else (some false)) else (some false)) else (some false)) else (some false)) else (some false)) else (some false)) else (some false)) else (some false)))))))))))))))) = some true := h
  clear h
  replace H := Option.bind_eq_some_iff.mp H
  obtain ⟨⟨t158, t159, t160, t161, t162, t163⟩, A10, H⟩ := H
  replace H : ((life_Life_Start.f k t158 t159 t160 t161 t162 t163).bind fun bt165 => ((life_Life_Want.f k bt165.2.1 bt165.2.2.1 bt165.2.2.2.1 bt165.2.2.2.2.1 bt165.2.2.2.2.2.1 bt165.2.2.2.2.2.2).bind fun bt172 => ((life_Life_Start.f k bt172.2.1 bt172.2.2.1 bt172.2.2.2.1 bt172.2.2.2.2.1 bt172.2.2.2.2.2.1 bt172.2.2.2.2.2.2).bind fun bt179 => ((life_Life_Stop.f k bt179.2.1 bt179.2.2.1 bt179.2.2.2.1 bt179.2.2.2.2.1 bt179.2.2.2.2.2.1 bt179.2.2.2.2.2.2).bind fun bt186 => ((life_Life_Start.f k bt186.2.1 bt186.2.2.1 bt186.2.2.2.1 bt186.2.2.2.2.1 bt186.2.2.2.2.2.1 bt186.2.2.2.2.2.2).bind fun bt193 => ((life_Life_Stop.f k bt193.2.1 bt193.2.2.1 bt193.2.2.2.1 bt193.2.2.2.2.1 bt193.2.2.2.2.2.1 bt193.2.2.2.2.2.2).bind fun bt200 => ((life_Life_Right.f bt200.2.1 bt200.2.2.1 bt200.2.2.2.1 bt200.2.2.2.2.1 bt200.2.2.2.2.2.1 bt200.2.2.2.2.2.2 2).bind fun bt207 => ((life_Life_Right.f bt207.2.1 bt207.2.2.1 bt207.2.2.2.1 bt207.2.2.2.2.1 bt207.2.2.2.2.2.1 bt207.2.2.2.2.2.2 1).bind fun bt214 => ((life_Life_Miss.f k bt214.2.1 bt214.2.2.1 bt214.2.2.2.1 bt214.2.2.2.2.1 bt214.2.2.2.2.2.1 bt214.2.2.2.2.2.2).bind fun bt221 => ((life_Life_State.f bt221.2.1 bt221.2.2.1 bt221.2.2.2.1 bt221.2.2.2.2.1 bt221.2.2.2.2.2.1 bt221.2.2.2.2.2.2).bind fun bt228 => ((life_Life_Rested.f k bt228.2.1 bt228.2.2.1 bt228.2.2.2.1 bt228.2.2.2.2.1 bt228.2.2.2.2.2.1 bt228.2.2.2.2.2.2).bind fun bt235 => ((life_Life_Start.f k bt235.2.1 bt235.2.2.1 bt235.2.2.2.1 bt235.2.2.2.2.1 bt235.2.2.2.2.2.1 bt235.2.2.2.2.2.2).bind fun bt242 => ((life_Life_Miss.f k bt242.2.1 bt242.2.2.1 bt242.2.2.2.1 bt242.2.2.2.2.1 bt242.2.2.2.2.2.1 bt242.2.2.2.2.2.2).bind fun bt249 => (if bt165.1 = 8 then (if bt172.1 = 0 then (if bt179.1 = 0 then (if bt186.1 = 0 then (if bt193.1 = 0 then (if bt200.1 = 4 then (if bt207.1 = 0 then (if bt214.1 = 7 then (if bt221.1 = 0 then (if bt228.1 = 4 then ((life_Life_State.f bt249.2.1 bt249.2.2.1 bt249.2.2.2.1 bt249.2.2.2.2.1 bt249.2.2.2.2.2.1 bt249.2.2.2.2.2.2).bind fun bt256 => (if bt256.1 = 6 then ((life_Life_Final.f bt256.2.1 bt256.2.2.1 bt256.2.2.2.1 bt256.2.2.2.2.1 bt256.2.2.2.2.2.1 bt256.2.2.2.2.2.2).bind fun bt263 => (if bt263.1 = true then ((life_Life_Epoch.f bt263.2.1 bt263.2.2.1 bt263.2.2.2.1 bt263.2.2.2.2.1 bt263.2.2.2.2.2.1 bt263.2.2.2.2.2.2).bind fun bt270 => (if bt270.1 = 3 then ((life_Life_Stopped.f bt270.2.1 bt270.2.2.1 bt270.2.2.2.1 bt270.2.2.2.2.1 bt270.2.2.2.2.2.1 bt270.2.2.2.2.2.2).bind fun bt277 => (if bt277.1 = 1 then ((life_Life_Missed.f bt277.2.1 bt277.2.2.1 bt277.2.2.2.1 bt277.2.2.2.2.1 bt277.2.2.2.2.2.1 bt277.2.2.2.2.2.2).bind fun bt284 => (some (bt284.1 == 2))) else (some false))) else (some false))) else (some false))) else (some false))) else (some false)) else (some false)) else (some false)) else (some false)) else (some false)) else (some false)) else (some false)) else (some false)) else (some false)) else (some false))))))))))))))) = some true := H
  have A1 := Aside0.mk A10
  clear A10
  replace H := Option.bind_eq_some_iff.mp H
  obtain ⟨⟨t165, t166, t167, t168, t169, t170, t171⟩, A20, H⟩ := H
  replace H : ((life_Life_Want.f k t166 t167 t168 t169 t170 t171).bind fun bt172 => ((life_Life_Start.f k bt172.2.1 bt172.2.2.1 bt172.2.2.2.1 bt172.2.2.2.2.1 bt172.2.2.2.2.2.1 bt172.2.2.2.2.2.2).bind fun bt179 => ((life_Life_Stop.f k bt179.2.1 bt179.2.2.1 bt179.2.2.2.1 bt179.2.2.2.2.1 bt179.2.2.2.2.2.1 bt179.2.2.2.2.2.2).bind fun bt186 => ((life_Life_Start.f k bt186.2.1 bt186.2.2.1 bt186.2.2.2.1 bt186.2.2.2.2.1 bt186.2.2.2.2.2.1 bt186.2.2.2.2.2.2).bind fun bt193 => ((life_Life_Stop.f k bt193.2.1 bt193.2.2.1 bt193.2.2.2.1 bt193.2.2.2.2.1 bt193.2.2.2.2.2.1 bt193.2.2.2.2.2.2).bind fun bt200 => ((life_Life_Right.f bt200.2.1 bt200.2.2.1 bt200.2.2.2.1 bt200.2.2.2.2.1 bt200.2.2.2.2.2.1 bt200.2.2.2.2.2.2 2).bind fun bt207 => ((life_Life_Right.f bt207.2.1 bt207.2.2.1 bt207.2.2.2.1 bt207.2.2.2.2.1 bt207.2.2.2.2.2.1 bt207.2.2.2.2.2.2 1).bind fun bt214 => ((life_Life_Miss.f k bt214.2.1 bt214.2.2.1 bt214.2.2.2.1 bt214.2.2.2.2.1 bt214.2.2.2.2.2.1 bt214.2.2.2.2.2.2).bind fun bt221 => ((life_Life_State.f bt221.2.1 bt221.2.2.1 bt221.2.2.2.1 bt221.2.2.2.2.1 bt221.2.2.2.2.2.1 bt221.2.2.2.2.2.2).bind fun bt228 => ((life_Life_Rested.f k bt228.2.1 bt228.2.2.1 bt228.2.2.2.1 bt228.2.2.2.2.1 bt228.2.2.2.2.2.1 bt228.2.2.2.2.2.2).bind fun bt235 => ((life_Life_Start.f k bt235.2.1 bt235.2.2.1 bt235.2.2.2.1 bt235.2.2.2.2.1 bt235.2.2.2.2.2.1 bt235.2.2.2.2.2.2).bind fun bt242 => ((life_Life_Miss.f k bt242.2.1 bt242.2.2.1 bt242.2.2.2.1 bt242.2.2.2.2.1 bt242.2.2.2.2.2.1 bt242.2.2.2.2.2.2).bind fun bt249 => (if t165 = 8 then (if bt172.1 = 0 then (if bt179.1 = 0 then (if bt186.1 = 0 then (if bt193.1 = 0 then (if bt200.1 = 4 then (if bt207.1 = 0 then (if bt214.1 = 7 then (if bt221.1 = 0 then (if bt228.1 = 4 then ((life_Life_State.f bt249.2.1 bt249.2.2.1 bt249.2.2.2.1 bt249.2.2.2.2.1 bt249.2.2.2.2.2.1 bt249.2.2.2.2.2.2).bind fun bt256 => (if bt256.1 = 6 then ((life_Life_Final.f bt256.2.1 bt256.2.2.1 bt256.2.2.2.1 bt256.2.2.2.2.1 bt256.2.2.2.2.2.1 bt256.2.2.2.2.2.2).bind fun bt263 => (if bt263.1 = true then ((life_Life_Epoch.f bt263.2.1 bt263.2.2.1 bt263.2.2.2.1 bt263.2.2.2.2.1 bt263.2.2.2.2.2.1 bt263.2.2.2.2.2.2).bind fun bt270 => (if bt270.1 = 3 then ((life_Life_Stopped.f bt270.2.1 bt270.2.2.1 bt270.2.2.2.1 bt270.2.2.2.2.1 bt270.2.2.2.2.2.1 bt270.2.2.2.2.2.2).bind fun bt277 => (if bt277.1 = 1 then ((life_Life_Missed.f bt277.2.1 bt277.2.2.1 bt277.2.2.2.1 bt277.2.2.2.2.1 bt277.2.2.2.2.2.1 bt277.2.2.2.2.2.2).bind fun bt284 => (some (bt284.1 == 2))) else (some false))) else (some false))) else (some false))) else (some false))) else (some false)) else (some false)) else (some false)) else (some false)) else (some false)) else (some false)) else (some false)) else (some false)) else (some false)) else (some false)))))))))))))) = some true := H
  have A2 := Aside0.mk A20
  clear A20
  replace H := Option.bind_eq_some_iff.mp H
  obtain ⟨⟨t172, t173, t174, t175, t176, t177, t178⟩, A30, H⟩ := H
  replace H : ((life_Life_Start.f k t173 t174 t175 t176 t177 t178).bind fun bt179 => ((life_Life_Stop.f k bt179.2.1 bt179.2.2.1 bt179.2.2.2.1 bt179.2.2.2.2.1 bt179.2.2.2.2.2.1 bt179.2.2.2.2.2.2).bind fun bt186 => ((life_Life_Start.f k bt186.2.1 bt186.2.2.1 bt186.2.2.2.1 bt186.2.2.2.2.1 bt186.2.2.2.2.2.1 bt186.2.2.2.2.2.2).bind fun bt193 => ((life_Life_Stop.f k bt193.2.1 bt193.2.2.1 bt193.2.2.2.1 bt193.2.2.2.2.1 bt193.2.2.2.2.2.1 bt193.2.2.2.2.2.2).bind fun bt200 => ((life_Life_Right.f bt200.2.1 bt200.2.2.1 bt200.2.2.2.1 bt200.2.2.2.2.1 bt200.2.2.2.2.2.1 bt200.2.2.2.2.2.2 2).bind fun bt207 => ((life_Life_Right.f bt207.2.1 bt207.2.2.1 bt207.2.2.2.1 bt207.2.2.2.2.1 bt207.2.2.2.2.2.1 bt207.2.2.2.2.2.2 1).bind fun bt214 => ((life_Life_Miss.f k bt214.2.1 bt214.2.2.1 bt214.2.2.2.1 bt214.2.2.2.2.1 bt214.2.2.2.2.2.1 bt214.2.2.2.2.2.2).bind fun bt221 => ((life_Life_State.f bt221.2.1 bt221.2.2.1 bt221.2.2.2.1 bt221.2.2.2.2.1 bt221.2.2.2.2.2.1 bt221.2.2.2.2.2.2).bind fun bt228 => ((life_Life_Rested.f k bt228.2.1 bt228.2.2.1 bt228.2.2.2.1 bt228.2.2.2.2.1 bt228.2.2.2.2.2.1 bt228.2.2.2.2.2.2).bind fun bt235 => ((life_Life_Start.f k bt235.2.1 bt235.2.2.1 bt235.2.2.2.1 bt235.2.2.2.2.1 bt235.2.2.2.2.2.1 bt235.2.2.2.2.2.2).bind fun bt242 => ((life_Life_Miss.f k bt242.2.1 bt242.2.2.1 bt242.2.2.2.1 bt242.2.2.2.2.1 bt242.2.2.2.2.2.1 bt242.2.2.2.2.2.2).bind fun bt249 => (if t165 = 8 then (if t172 = 0 then (if bt179.1 = 0 then (if bt186.1 = 0 then (if bt193.1 = 0 then (if bt200.1 = 4 then (if bt207.1 = 0 then (if bt214.1 = 7 then (if bt221.1 = 0 then (if bt228.1 = 4 then ((life_Life_State.f bt249.2.1 bt249.2.2.1 bt249.2.2.2.1 bt249.2.2.2.2.1 bt249.2.2.2.2.2.1 bt249.2.2.2.2.2.2).bind fun bt256 => (if bt256.1 = 6 then ((life_Life_Final.f bt256.2.1 bt256.2.2.1 bt256.2.2.2.1 bt256.2.2.2.2.1 bt256.2.2.2.2.2.1 bt256.2.2.2.2.2.2).bind fun bt263 => (if bt263.1 = true then ((life_Life_Epoch.f bt263.2.1 bt263.2.2.1 bt263.2.2.2.1 bt263.2.2.2.2.1 bt263.2.2.2.2.2.1 bt263.2.2.2.2.2.2).bind fun bt270 => (if bt270.1 = 3 then ((life_Life_Stopped.f bt270.2.1 bt270.2.2.1 bt270.2.2.2.1 bt270.2.2.2.2.1 bt270.2.2.2.2.2.1 bt270.2.2.2.2.2.2).bind fun bt277 => (if bt277.1 = 1 then ((life_Life_Missed.f bt277.2.1 bt277.2.2.1 bt277.2.2.2.1 bt277.2.2.2.2.1 bt277.2.2.2.2.2.1 bt277.2.2.2.2.2.2).bind fun bt284 => (some (bt284.1 == 2))) else (some false))) else (some false))) else (some false))) else (some false))) else (some false)) else (some false)) else (some false)) else (some false)) else (some false)) else (some false)) else (some false)) else (some false)) else (some false)) else (some false))))))))))))) = some true := H
  have A3 := Aside0.mk A30
  clear A30
  replace H := Option.bind_eq_some_iff.mp H
  obtain ⟨⟨t179, t180, t181, t182, t183, t184, t185⟩, A40, H⟩ := H
  replace H : ((life_Life_Stop.f k t180 t181 t182 t183 t184 t185).bind fun bt186 => ((life_Life_Start.f k bt186.2.1 bt186.2.2.1 bt186.2.2.2.1 bt186.2.2.2.2.1 bt186.2.2.2.2.2.1 bt186.2.2.2.2.2.2).bind fun bt193 => ((life_Life_Stop.f k bt193.2.1 bt193.2.2.1 bt193.2.2.2.1 bt193.2.2.2.2.1 bt193.2.2.2.2.2.1 bt193.2.2.2.2.2.2).bind fun bt200 => ((life_Life_Right.f bt200.2.1 bt200.2.2.1 bt200.2.2.2.1 bt200.2.2.2.2.1 bt200.2.2.2.2.2.1 bt200.2.2.2.2.2.2 2).bind fun bt207 => ((life_Life_Right.f bt207.2.1 bt207.2.2.1 bt207.2.2.2.1 bt207.2.2.2.2.1 bt207.2.2.2.2.2.1 bt207.2.2.2.2.2.2 1).bind fun bt214 => ((life_Life_Miss.f k bt214.2.1 bt214.2.2.1 bt214.2.2.2.1 bt214.2.2.2.2.1 bt214.2.2.2.2.2.1 bt214.2.2.2.2.2.2).bind fun bt221 => ((life_Life_State.f bt221.2.1 bt221.2.2.1 bt221.2.2.2.1 bt221.2.2.2.2.1 bt221.2.2.2.2.2.1 bt221.2.2.2.2.2.2).bind fun bt228 => ((life_Life_Rested.f k bt228.2.1 bt228.2.2.1 bt228.2.2.2.1 bt228.2.2.2.2.1 bt228.2.2.2.2.2.1 bt228.2.2.2.2.2.2).bind fun bt235 => ((life_Life_Start.f k bt235.2.1 bt235.2.2.1 bt235.2.2.2.1 bt235.2.2.2.2.1 bt235.2.2.2.2.2.1 bt235.2.2.2.2.2.2).bind fun bt242 => ((life_Life_Miss.f k bt242.2.1 bt242.2.2.1 bt242.2.2.2.1 bt242.2.2.2.2.1 bt242.2.2.2.2.2.1 bt242.2.2.2.2.2.2).bind fun bt249 => (if t165 = 8 then (if t172 = 0 then (if t179 = 0 then (if bt186.1 = 0 then (if bt193.1 = 0 then (if bt200.1 = 4 then (if bt207.1 = 0 then (if bt214.1 = 7 then (if bt221.1 = 0 then (if bt228.1 = 4 then ((life_Life_State.f bt249.2.1 bt249.2.2.1 bt249.2.2.2.1 bt249.2.2.2.2.1 bt249.2.2.2.2.2.1 bt249.2.2.2.2.2.2).bind fun bt256 => (if bt256.1 = 6 then ((life_Life_Final.f bt256.2.1 bt256.2.2.1 bt256.2.2.2.1 bt256.2.2.2.2.1 bt256.2.2.2.2.2.1 bt256.2.2.2.2.2.2).bind fun bt263 => (if bt263.1 = true then ((life_Life_Epoch.f bt263.2.1 bt263.2.2.1 bt263.2.2.2.1 bt263.2.2.2.2.1 bt263.2.2.2.2.2.1 bt263.2.2.2.2.2.2).bind fun bt270 => (if bt270.1 = 3 then ((life_Life_Stopped.f bt270.2.1 bt270.2.2.1 bt270.2.2.2.1 bt270.2.2.2.2.1 bt270.2.2.2.2.2.1 bt270.2.2.2.2.2.2).bind fun bt277 => (if bt277.1 = 1 then ((life_Life_Missed.f bt277.2.1 bt277.2.2.1 bt277.2.2.2.1 bt277.2.2.2.2.1 bt277.2.2.2.2.2.1 bt277.2.2.2.2.2.2).bind fun bt284 => (some (bt284.1 == 2))) else (some false))) else (some false))) else (some false))) else (some false))) else (some false)) else (some false)) else (some false)) else (some false)) else (some false)) else (some false)) else (some false)) else (some false)) else (some false)) else (some false)))))))))))) = some true := H
  have A4 := Aside0.mk A40
  clear A40
  replace H := Option.bind_eq_some_iff.mp H
  obtain ⟨⟨t186, t187, t188, t189, t190, t191, t192⟩, A50, H⟩ := H
  replace H : ((life_Life_Start.f k t187 t188 t189 t190 t191 t192).bind fun bt193 => ((life_Life_Stop.f k bt193.2.1 bt193.2.2.1 bt193.2.2.2.1 bt193.2.2.2.2.1 bt193.2.2.2.2.2.1 bt193.2.2.2.2.2.2).bind fun bt200 => ((life_Life_Right.f bt200.2.1 bt200.2.2.1 bt200.2.2.2.1 bt200.2.2.2.2.1 bt200.2.2.2.2.2.1 bt200.2.2.2.2.2.2 2).bind fun bt207 => ((life_Life_Right.f bt207.2.1 bt207.2.2.1 bt207.2.2.2.1 bt207.2.2.2.2.1 bt207.2.2.2.2.2.1 bt207.2.2.2.2.2.2 1).bind fun bt214 => ((life_Life_Miss.f k bt214.2.1 bt214.2.2.1 bt214.2.2.2.1 bt214.2.2.2.2.1 bt214.2.2.2.2.2.1 bt214.2.2.2.2.2.2).bind fun bt221 => ((life_Life_State.f bt221.2.1 bt221.2.2.1 bt221.2.2.2.1 bt221.2.2.2.2.1 bt221.2.2.2.2.2.1 bt221.2.2.2.2.2.2).bind fun bt228 => ((life_Life_Rested.f k bt228.2.1 bt228.2.2.1 bt228.2.2.2.1 bt228.2.2.2.2.1 bt228.2.2.2.2.2.1 bt228.2.2.2.2.2.2).bind fun bt235 => ((life_Life_Start.f k bt235.2.1 bt235.2.2.1 bt235.2.2.2.1 bt235.2.2.2.2.1 bt235.2.2.2.2.2.1 bt235.2.2.2.2.2.2).bind fun bt242 => ((life_Life_Miss.f k bt242.2.1 bt242.2.2.1 bt242.2.2.2.1 bt242.2.2.2.2.1 bt242.2.2.2.2.2.1 bt242.2.2.2.2.2.2).bind fun bt249 => (if t165 = 8 then (if t172 = 0 then (if t179 = 0 then (if t186 = 0 then (if bt193.1 = 0 then (if bt200.1 = 4 then (if bt207.1 = 0 then (if bt214.1 = 7 then (if bt221.1 = 0 then (if bt228.1 = 4 then ((life_Life_State.f bt249.2.1 bt249.2.2.1 bt249.2.2.2.1 bt249.2.2.2.2.1 bt249.2.2.2.2.2.1 bt249.2.2.2.2.2.2).bind fun bt256 => (if bt256.1 = 6 then ((life_Life_Final.f bt256.2.1 bt256.2.2.1 bt256.2.2.2.1 bt256.2.2.2.2.1 bt256.2.2.2.2.2.1 bt256.2.2.2.2.2.2).bind fun bt263 => (if bt263.1 = true then ((life_Life_Epoch.f bt263.2.1 bt263.2.2.1 bt263.2.2.2.1 bt263.2.2.2.2.1 bt263.2.2.2.2.2.1 bt263.2.2.2.2.2.2).bind fun bt270 => (if bt270.1 = 3 then ((life_Life_Stopped.f bt270.2.1 bt270.2.2.1 bt270.2.2.2.1 bt270.2.2.2.2.1 bt270.2.2.2.2.2.1 bt270.2.2.2.2.2.2).bind fun bt277 => (if bt277.1 = 1 then ((life_Life_Missed.f bt277.2.1 bt277.2.2.1 bt277.2.2.2.1 bt277.2.2.2.2.1 bt277.2.2.2.2.2.1 bt277.2.2.2.2.2.2).bind fun bt284 => (some (bt284.1 == 2))) else (some false))) else (some false))) else (some false))) else (some false))) else (some false)) else (some false)) else (some false)) else (some false)) else (some false)) else (some false)) else (some false)) else (some false)) else (some false)) else (some false))))))))))) = some true := H
  have A5 := Aside0.mk A50
  clear A50
  replace H := Option.bind_eq_some_iff.mp H
  obtain ⟨⟨t193, t194, t195, t196, t197, t198, t199⟩, A60, H⟩ := H
  replace H : ((life_Life_Stop.f k t194 t195 t196 t197 t198 t199).bind fun bt200 => ((life_Life_Right.f bt200.2.1 bt200.2.2.1 bt200.2.2.2.1 bt200.2.2.2.2.1 bt200.2.2.2.2.2.1 bt200.2.2.2.2.2.2 2).bind fun bt207 => ((life_Life_Right.f bt207.2.1 bt207.2.2.1 bt207.2.2.2.1 bt207.2.2.2.2.1 bt207.2.2.2.2.2.1 bt207.2.2.2.2.2.2 1).bind fun bt214 => ((life_Life_Miss.f k bt214.2.1 bt214.2.2.1 bt214.2.2.2.1 bt214.2.2.2.2.1 bt214.2.2.2.2.2.1 bt214.2.2.2.2.2.2).bind fun bt221 => ((life_Life_State.f bt221.2.1 bt221.2.2.1 bt221.2.2.2.1 bt221.2.2.2.2.1 bt221.2.2.2.2.2.1 bt221.2.2.2.2.2.2).bind fun bt228 => ((life_Life_Rested.f k bt228.2.1 bt228.2.2.1 bt228.2.2.2.1 bt228.2.2.2.2.1 bt228.2.2.2.2.2.1 bt228.2.2.2.2.2.2).bind fun bt235 => ((life_Life_Start.f k bt235.2.1 bt235.2.2.1 bt235.2.2.2.1 bt235.2.2.2.2.1 bt235.2.2.2.2.2.1 bt235.2.2.2.2.2.2).bind fun bt242 => ((life_Life_Miss.f k bt242.2.1 bt242.2.2.1 bt242.2.2.2.1 bt242.2.2.2.2.1 bt242.2.2.2.2.2.1 bt242.2.2.2.2.2.2).bind fun bt249 => (if t165 = 8 then (if t172 = 0 then (if t179 = 0 then (if t186 = 0 then (if t193 = 0 then (if bt200.1 = 4 then (if bt207.1 = 0 then (if bt214.1 = 7 then (if bt221.1 = 0 then (if bt228.1 = 4 then ((life_Life_State.f bt249.2.1 bt249.2.2.1 bt249.2.2.2.1 bt249.2.2.2.2.1 bt249.2.2.2.2.2.1 bt249.2.2.2.2.2.2).bind fun bt256 => (if bt256.1 = 6 then ((life_Life_Final.f bt256.2.1 bt256.2.2.1 bt256.2.2.2.1 bt256.2.2.2.2.1 bt256.2.2.2.2.2.1 bt256.2.2.2.2.2.2).bind fun bt263 => (if bt263.1 = true then ((life_Life_Epoch.f bt263.2.1 bt263.2.2.1 bt263.2.2.2.1 bt263.2.2.2.2.1 bt263.2.2.2.2.2.1 bt263.2.2.2.2.2.2).bind fun bt270 => (if bt270.1 = 3 then ((life_Life_Stopped.f bt270.2.1 bt270.2.2.1 bt270.2.2.2.1 bt270.2.2.2.2.1 bt270.2.2.2.2.2.1 bt270.2.2.2.2.2.2).bind fun bt277 => (if bt277.1 = 1 then ((life_Life_Missed.f bt277.2.1 bt277.2.2.1 bt277.2.2.2.1 bt277.2.2.2.2.1 bt277.2.2.2.2.2.1 bt277.2.2.2.2.2.2).bind fun bt284 => (some (bt284.1 == 2))) else (some false))) else (some false))) else (some false))) else (some false))) else (some false)) else (some false)) else (some false)) else (some false)) else (some false)) else (some false)) else (some false)) else (some false)) else (some false)) else (some false)))))))))) = some true := H
  have A6 := Aside0.mk A60
  clear A60
  replace H := Option.bind_eq_some_iff.mp H
  obtain ⟨⟨t200, t201, t202, t203, t204, t205, t206⟩, A70, H⟩ := H
  replace H : ((life_Life_Right.f t201 t202 t203 t204 t205 t206 2).bind fun bt207 => ((life_Life_Right.f bt207.2.1 bt207.2.2.1 bt207.2.2.2.1 bt207.2.2.2.2.1 bt207.2.2.2.2.2.1 bt207.2.2.2.2.2.2 1).bind fun bt214 => ((life_Life_Miss.f k bt214.2.1 bt214.2.2.1 bt214.2.2.2.1 bt214.2.2.2.2.1 bt214.2.2.2.2.2.1 bt214.2.2.2.2.2.2).bind fun bt221 => ((life_Life_State.f bt221.2.1 bt221.2.2.1 bt221.2.2.2.1 bt221.2.2.2.2.1 bt221.2.2.2.2.2.1 bt221.2.2.2.2.2.2).bind fun bt228 => ((life_Life_Rested.f k bt228.2.1 bt228.2.2.1 bt228.2.2.2.1 bt228.2.2.2.2.1 bt228.2.2.2.2.2.1 bt228.2.2.2.2.2.2).bind fun bt235 => ((life_Life_Start.f k bt235.2.1 bt235.2.2.1 bt235.2.2.2.1 bt235.2.2.2.2.1 bt235.2.2.2.2.2.1 bt235.2.2.2.2.2.2).bind fun bt242 => ((life_Life_Miss.f k bt242.2.1 bt242.2.2.1 bt242.2.2.2.1 bt242.2.2.2.2.1 bt242.2.2.2.2.2.1 bt242.2.2.2.2.2.2).bind fun bt249 => (if t165 = 8 then (if t172 = 0 then (if t179 = 0 then (if t186 = 0 then (if t193 = 0 then (if t200 = 4 then (if bt207.1 = 0 then (if bt214.1 = 7 then (if bt221.1 = 0 then (if bt228.1 = 4 then ((life_Life_State.f bt249.2.1 bt249.2.2.1 bt249.2.2.2.1 bt249.2.2.2.2.1 bt249.2.2.2.2.2.1 bt249.2.2.2.2.2.2).bind fun bt256 => (if bt256.1 = 6 then ((life_Life_Final.f bt256.2.1 bt256.2.2.1 bt256.2.2.2.1 bt256.2.2.2.2.1 bt256.2.2.2.2.2.1 bt256.2.2.2.2.2.2).bind fun bt263 => (if bt263.1 = true then ((life_Life_Epoch.f bt263.2.1 bt263.2.2.1 bt263.2.2.2.1 bt263.2.2.2.2.1 bt263.2.2.2.2.2.1 bt263.2.2.2.2.2.2).bind fun bt270 => (if bt270.1 = 3 then ((life_Life_Stopped.f bt270.2.1 bt270.2.2.1 bt270.2.2.2.1 bt270.2.2.2.2.1 bt270.2.2.2.2.2.1 bt270.2.2.2.2.2.2).bind fun bt277 => (if bt277.1 = 1 then ((life_Life_Missed.f bt277.2.1 bt277.2.2.1 bt277.2.2.2.1 bt277.2.2.2.2.1 bt277.2.2.2.2.2.1 bt277.2.2.2.2.2.2).bind fun bt284 => (some (bt284.1 == 2))) else (some false))) else (some false))) else (some false))) else (some false))) else (some false)) else (some false)) else (some false)) else (some false)) else (some false)) else (some false)) else (some false)) else (some false)) else (some false)) else (some false))))))))) = some true := H
  have A7 := Aside0.mk A70
  clear A70
  replace H := Option.bind_eq_some_iff.mp H
  obtain ⟨⟨t207, t208, t209, t210, t211, t212, t213⟩, A80, H⟩ := H
  replace H : ((life_Life_Right.f t208 t209 t210 t211 t212 t213 1).bind fun bt214 => ((life_Life_Miss.f k bt214.2.1 bt214.2.2.1 bt214.2.2.2.1 bt214.2.2.2.2.1 bt214.2.2.2.2.2.1 bt214.2.2.2.2.2.2).bind fun bt221 => ((life_Life_State.f bt221.2.1 bt221.2.2.1 bt221.2.2.2.1 bt221.2.2.2.2.1 bt221.2.2.2.2.2.1 bt221.2.2.2.2.2.2).bind fun bt228 => ((life_Life_Rested.f k bt228.2.1 bt228.2.2.1 bt228.2.2.2.1 bt228.2.2.2.2.1 bt228.2.2.2.2.2.1 bt228.2.2.2.2.2.2).bind fun bt235 => ((life_Life_Start.f k bt235.2.1 bt235.2.2.1 bt235.2.2.2.1 bt235.2.2.2.2.1 bt235.2.2.2.2.2.1 bt235.2.2.2.2.2.2).bind fun bt242 => ((life_Life_Miss.f k bt242.2.1 bt242.2.2.1 bt242.2.2.2.1 bt242.2.2.2.2.1 bt242.2.2.2.2.2.1 bt242.2.2.2.2.2.2).bind fun bt249 => (if t165 = 8 then (if t172 = 0 then (if t179 = 0 then (if t186 = 0 then (if t193 = 0 then (if t200 = 4 then (if t207 = 0 then (if bt214.1 = 7 then (if bt221.1 = 0 then (if bt228.1 = 4 then ((life_Life_State.f bt249.2.1 bt249.2.2.1 bt249.2.2.2.1 bt249.2.2.2.2.1 bt249.2.2.2.2.2.1 bt249.2.2.2.2.2.2).bind fun bt256 => (if bt256.1 = 6 then ((life_Life_Final.f bt256.2.1 bt256.2.2.1 bt256.2.2.2.1 bt256.2.2.2.2.1 bt256.2.2.2.2.2.1 bt256.2.2.2.2.2.2).bind fun bt263 => (if bt263.1 = true then ((life_Life_Epoch.f bt263.2.1 bt263.2.2.1 bt263.2.2.2.1 bt263.2.2.2.2.1 bt263.2.2.2.2.2.1 bt263.2.2.2.2.2.2).bind fun bt270 => (if bt270.1 = 3 then ((life_Life_Stopped.f bt270.2.1 bt270.2.2.1 bt270.2.2.2.1 bt270.2.2.2.2.1 bt270.2.2.2.2.2.1 bt270.2.2.2.2.2.2).bind fun bt277 => (if bt277.1 = 1 then ((life_Life_Missed.f bt277.2.1 bt277.2.2.1 bt277.2.2.2.1 bt277.2.2.2.2.1 bt277.2.2.2.2.2.1 bt277.2.2.2.2.2.2).bind fun bt284 => (some (bt284.1 == 2))) else (some false))) else (some false))) else (some false))) else (some false))) else (some false)) else (some false)) else (some false)) else (some false)) else (some false)) else (some false)) else (some false)) else (some false)) else (some false)) else (some false)))))))) = some true := H
  have A8 := Aside0.mk A80
  clear A80
  replace H := Option.bind_eq_some_iff.mp H
  obtain ⟨⟨t214, t215, t216, t217, t218, t219, t220⟩, A90, H⟩ := H
  replace H : ((life_Life_Miss.f k t215 t216 t217 t218 t219 t220).bind fun bt221 => ((life_Life_State.f bt221.2.1 bt221.2.2.1 bt221.2.2.2.1 bt221.2.2.2.2.1 bt221.2.2.2.2.2.1 bt221.2.2.2.2.2.2).bind fun bt228 => ((life_Life_Rested.f k bt228.2.1 bt228.2.2.1 bt228.2.2.2.1 bt228.2.2.2.2.1 bt228.2.2.2.2.2.1 bt228.2.2.2.2.2.2).bind fun bt235 => ((life_Life_Start.f k bt235.2.1 bt235.2.2.1 bt235.2.2.2.1 bt235.2.2.2.2.1 bt235.2.2.2.2.2.1 bt235.2.2.2.2.2.2).bind fun bt242 => ((life_Life_Miss.f k bt242.2.1 bt242.2.2.1 bt242.2.2.2.1 bt242.2.2.2.2.1 bt242.2.2.2.2.2.1 bt242.2.2.2.2.2.2).bind fun bt249 => (if t165 = 8 then (if t172 = 0 then (if t179 = 0 then (if t186 = 0 then (if t193 = 0 then (if t200 = 4 then (if t207 = 0 then (if t214 = 7 then (if bt221.1 = 0 then (if bt228.1 = 4 then ((life_Life_State.f bt249.2.1 bt249.2.2.1 bt249.2.2.2.1 bt249.2.2.2.2.1 bt249.2.2.2.2.2.1 bt249.2.2.2.2.2.2).bind fun bt256 => (if bt256.1 = 6 then ((life_Life_Final.f bt256.2.1 bt256.2.2.1 bt256.2.2.2.1 bt256.2.2.2.2.1 bt256.2.2.2.2.2.1 bt256.2.2.2.2.2.2).bind fun bt263 => (if bt263.1 = true then ((life_Life_Epoch.f bt263.2.1 bt263.2.2.1 bt263.2.2.2.1 bt263.2.2.2.2.1 bt263.2.2.2.2.2.1 bt263.2.2.2.2.2.2).bind fun bt270 => (if bt270.1 = 3 then ((life_Life_Stopped.f bt270.2.1 bt270.2.2.1 bt270.2.2.2.1 bt270.2.2.2.2.1 bt270.2.2.2.2.2.1 bt270.2.2.2.2.2.2).bind fun bt277 => (if bt277.1 = 1 then ((life_Life_Missed.f bt277.2.1 bt277.2.2.1 bt277.2.2.2.1 bt277.2.2.2.2.1 bt277.2.2.2.2.2.1 bt277.2.2.2.2.2.2).bind fun bt284 => (some (bt284.1 == 2))) else (some false))) else (some false))) else (some false))) else (some false))) else (some false)) else (some false)) else (some false)) else (some false)) else (some false)) else (some false)) else (some false)) else (some false)) else (some false)) else (some false))))))) = some true := H
  have A9 := Aside0.mk A90
  clear A90
  replace H := Option.bind_eq_some_iff.mp H
  obtain ⟨⟨t221, t222, t223, t224, t225, t226, t227⟩, A100, H⟩ := H
  replace H : ((life_Life_State.f t222 t223 t224 t225 t226 t227).bind fun bt228 => ((life_Life_Rested.f k bt228.2.1 bt228.2.2.1 bt228.2.2.2.1 bt228.2.2.2.2.1 bt228.2.2.2.2.2.1 bt228.2.2.2.2.2.2).bind fun bt235 => ((life_Life_Start.f k bt235.2.1 bt235.2.2.1 bt235.2.2.2.1 bt235.2.2.2.2.1 bt235.2.2.2.2.2.1 bt235.2.2.2.2.2.2).bind fun bt242 => ((life_Life_Miss.f k bt242.2.1 bt242.2.2.1 bt242.2.2.2.1 bt242.2.2.2.2.1 bt242.2.2.2.2.2.1 bt242.2.2.2.2.2.2).bind fun bt249 => (if t165 = 8 then (if t172 = 0 then (if t179 = 0 then (if t186 = 0 then (if t193 = 0 then (if t200 = 4 then (if t207 = 0 then (if t214 = 7 then (if t221 = 0 then (if bt228.1 = 4 then ((life_Life_State.f bt249.2.1 bt249.2.2.1 bt249.2.2.2.1 bt249.2.2.2.2.1 bt249.2.2.2.2.2.1 bt249.2.2.2.2.2.2).bind fun bt256 => (if bt256.1 = 6 then ((life_Life_Final.f bt256.2.1 bt256.2.2.1 bt256.2.2.2.1 bt256.2.2.2.2.1 bt256.2.2.2.2.2.1 bt256.2.2.2.2.2.2).bind fun bt263 => (if bt263.1 = true then ((life_Life_Epoch.f bt263.2.1 bt263.2.2.1 bt263.2.2.2.1 bt263.2.2.2.2.1 bt263.2.2.2.2.2.1 bt263.2.2.2.2.2.2).bind fun bt270 => (if bt270.1 = 3 then ((life_Life_Stopped.f bt270.2.1 bt270.2.2.1 bt270.2.2.2.1 bt270.2.2.2.2.1 bt270.2.2.2.2.2.1 bt270.2.2.2.2.2.2).bind fun bt277 => (if bt277.1 = 1 then ((life_Life_Missed.f bt277.2.1 bt277.2.2.1 bt277.2.2.2.1 bt277.2.2.2.2.1 bt277.2.2.2.2.2.1 bt277.2.2.2.2.2.2).bind fun bt284 => (some (bt284.1 == 2))) else (some false))) else (some false))) else (some false))) else (some false))) else (some false)) else (some false)) else (some false)) else (some false)) else (some false)) else (some false)) else (some false)) else (some false)) else (some false)) else (some false)))))) = some true := H
  have A10 := Aside0.mk A100
  clear A100
  replace H := Option.bind_eq_some_iff.mp H
  obtain ⟨⟨t228, t229, t230, t231, t232, t233, t234⟩, A110, H⟩ := H
  replace H : ((life_Life_Rested.f k t229 t230 t231 t232 t233 t234).bind fun bt235 => ((life_Life_Start.f k bt235.2.1 bt235.2.2.1 bt235.2.2.2.1 bt235.2.2.2.2.1 bt235.2.2.2.2.2.1 bt235.2.2.2.2.2.2).bind fun bt242 => ((life_Life_Miss.f k bt242.2.1 bt242.2.2.1 bt242.2.2.2.1 bt242.2.2.2.2.1 bt242.2.2.2.2.2.1 bt242.2.2.2.2.2.2).bind fun bt249 => (if t165 = 8 then (if t172 = 0 then (if t179 = 0 then (if t186 = 0 then (if t193 = 0 then (if t200 = 4 then (if t207 = 0 then (if t214 = 7 then (if t221 = 0 then (if t228 = 4 then ((life_Life_State.f bt249.2.1 bt249.2.2.1 bt249.2.2.2.1 bt249.2.2.2.2.1 bt249.2.2.2.2.2.1 bt249.2.2.2.2.2.2).bind fun bt256 => (if bt256.1 = 6 then ((life_Life_Final.f bt256.2.1 bt256.2.2.1 bt256.2.2.2.1 bt256.2.2.2.2.1 bt256.2.2.2.2.2.1 bt256.2.2.2.2.2.2).bind fun bt263 => (if bt263.1 = true then ((life_Life_Epoch.f bt263.2.1 bt263.2.2.1 bt263.2.2.2.1 bt263.2.2.2.2.1 bt263.2.2.2.2.2.1 bt263.2.2.2.2.2.2).bind fun bt270 => (if bt270.1 = 3 then ((life_Life_Stopped.f bt270.2.1 bt270.2.2.1 bt270.2.2.2.1 bt270.2.2.2.2.1 bt270.2.2.2.2.2.1 bt270.2.2.2.2.2.2).bind fun bt277 => (if bt277.1 = 1 then ((life_Life_Missed.f bt277.2.1 bt277.2.2.1 bt277.2.2.2.1 bt277.2.2.2.2.1 bt277.2.2.2.2.2.1 bt277.2.2.2.2.2.2).bind fun bt284 => (some (bt284.1 == 2))) else (some false))) else (some false))) else (some false))) else (some false))) else (some false)) else (some false)) else (some false)) else (some false)) else (some false)) else (some false)) else (some false)) else (some false)) else (some false)) else (some false))))) = some true := H
  have A11 := Aside0.mk A110
  clear A110
  replace H := Option.bind_eq_some_iff.mp H
  obtain ⟨⟨t235, t236, t237, t238, t239, t240, t241⟩, A120, H⟩ := H
  replace H : ((life_Life_Start.f k t236 t237 t238 t239 t240 t241).bind fun bt242 => ((life_Life_Miss.f k bt242.2.1 bt242.2.2.1 bt242.2.2.2.1 bt242.2.2.2.2.1 bt242.2.2.2.2.2.1 bt242.2.2.2.2.2.2).bind fun bt249 => (if t165 = 8 then (if t172 = 0 then (if t179 = 0 then (if t186 = 0 then (if t193 = 0 then (if t200 = 4 then (if t207 = 0 then (if t214 = 7 then (if t221 = 0 then (if t228 = 4 then ((life_Life_State.f bt249.2.1 bt249.2.2.1 bt249.2.2.2.1 bt249.2.2.2.2.1 bt249.2.2.2.2.2.1 bt249.2.2.2.2.2.2).bind fun bt256 => (if bt256.1 = 6 then ((life_Life_Final.f bt256.2.1 bt256.2.2.1 bt256.2.2.2.1 bt256.2.2.2.2.1 bt256.2.2.2.2.2.1 bt256.2.2.2.2.2.2).bind fun bt263 => (if bt263.1 = true then ((life_Life_Epoch.f bt263.2.1 bt263.2.2.1 bt263.2.2.2.1 bt263.2.2.2.2.1 bt263.2.2.2.2.2.1 bt263.2.2.2.2.2.2).bind fun bt270 => (if bt270.1 = 3 then ((life_Life_Stopped.f bt270.2.1 bt270.2.2.1 bt270.2.2.2.1 bt270.2.2.2.2.1 bt270.2.2.2.2.2.1 bt270.2.2.2.2.2.2).bind fun bt277 => (if bt277.1 = 1 then ((life_Life_Missed.f bt277.2.1 bt277.2.2.1 bt277.2.2.2.1 bt277.2.2.2.2.1 bt277.2.2.2.2.2.1 bt277.2.2.2.2.2.2).bind fun bt284 => (some (bt284.1 == 2))) else (some false))) else (some false))) else (some false))) else (some false))) else (some false)) else (some false)) else (some false)) else (some false)) else (some false)) else (some false)) else (some false)) else (some false)) else (some false)) else (some false)))) = some true := H
  have A12 := Aside0.mk A120
  clear A120
  replace H := Option.bind_eq_some_iff.mp H
  obtain ⟨⟨t242, t243, t244, t245, t246, t247, t248⟩, A130, H⟩ := H
  replace H : ((life_Life_Miss.f k t243 t244 t245 t246 t247 t248).bind fun bt249 => (if t165 = 8 then (if t172 = 0 then (if t179 = 0 then (if t186 = 0 then (if t193 = 0 then (if t200 = 4 then (if t207 = 0 then (if t214 = 7 then (if t221 = 0 then (if t228 = 4 then ((life_Life_State.f bt249.2.1 bt249.2.2.1 bt249.2.2.2.1 bt249.2.2.2.2.1 bt249.2.2.2.2.2.1 bt249.2.2.2.2.2.2).bind fun bt256 => (if bt256.1 = 6 then ((life_Life_Final.f bt256.2.1 bt256.2.2.1 bt256.2.2.2.1 bt256.2.2.2.2.1 bt256.2.2.2.2.2.1 bt256.2.2.2.2.2.2).bind fun bt263 => (if bt263.1 = true then ((life_Life_Epoch.f bt263.2.1 bt263.2.2.1 bt263.2.2.2.1 bt263.2.2.2.2.1 bt263.2.2.2.2.2.1 bt263.2.2.2.2.2.2).bind fun bt270 => (if bt270.1 = 3 then ((life_Life_Stopped.f bt270.2.1 bt270.2.2.1 bt270.2.2.2.1 bt270.2.2.2.2.1 bt270.2.2.2.2.2.1 bt270.2.2.2.2.2.2).bind fun bt277 => (if bt277.1 = 1 then ((life_Life_Missed.f bt277.2.1 bt277.2.2.1 bt277.2.2.2.1 bt277.2.2.2.2.1 bt277.2.2.2.2.2.1 bt277.2.2.2.2.2.2).bind fun bt284 => (some (bt284.1 == 2))) else (some false))) else (some false))) else (some false))) else (some false))) else (some false)) else (some false)) else (some false)) else (some false)) else (some false)) else (some false)) else (some false)) else (some false)) else (some false)) else (some false))) = some true := H
  have A13 := Aside0.mk A130
  clear A130
  replace H := Option.bind_eq_some_iff.mp H
  obtain ⟨⟨t249, t250, t251, t252, t253, t254, t255⟩, A140, H⟩ := H
  replace H : (if t165 = 8 then (if t172 = 0 then (if t179 = 0 then (if t186 = 0 then (if t193 = 0 then (if t200 = 4 then (if t207 = 0 then (if t214 = 7 then (if t221 = 0 then (if t228 = 4 then ((life_Life_State.f t250 t251 t252 t253 t254 t255).bind fun bt256 => (if bt256.1 = 6 then ((life_Life_Final.f bt256.2.1 bt256.2.2.1 bt256.2.2.2.1 bt256.2.2.2.2.1 bt256.2.2.2.2.2.1 bt256.2.2.2.2.2.2).bind fun bt263 => (if bt263.1 = true then ((life_Life_Epoch.f bt263.2.1 bt263.2.2.1 bt263.2.2.2.1 bt263.2.2.2.2.1 bt263.2.2.2.2.2.1 bt263.2.2.2.2.2.2).bind fun bt270 => (if bt270.1 = 3 then ((life_Life_Stopped.f bt270.2.1 bt270.2.2.1 bt270.2.2.2.1 bt270.2.2.2.2.1 bt270.2.2.2.2.2.1 bt270.2.2.2.2.2.2).bind fun bt277 => (if bt277.1 = 1 then ((life_Life_Missed.f bt277.2.1 bt277.2.2.1 bt277.2.2.2.1 bt277.2.2.2.2.1 bt277.2.2.2.2.2.1 bt277.2.2.2.2.2.2).bind fun bt284 => (some (bt284.1 == 2))) else (some false))) else (some false))) else (some false))) else (some false))) else (some false)) else (some false)) else (some false)) else (some false)) else (some false)) else (some false)) else (some false)) else (some false)) else (some false)) else (some false)) = some true := H
  have A14 := Aside0.mk A140
  clear A140
  by_cases c15 : t165 = 8
  · rw [if_pos c15] at H
    have c15b0 : (t165 == 8) = true := beq_iff_eq.mpr c15
    have c15b1 : (t165 != 8) = false := bne_eq_false_iff_eq.mpr c15
    clear c15
    by_cases c16 : t172 = 0
    · rw [if_pos c16] at H
      have c16b0 : (t172 == 0) = true := beq_iff_eq.mpr c16
      have c16b1 : (t172 != 0) = false := bne_eq_false_iff_eq.mpr c16
      clear c16
      by_cases c17 : t179 = 0
      · rw [if_pos c17] at H
        have c17b0 : (t179 == 0) = true := beq_iff_eq.mpr c17
        have c17b1 : (t179 != 0) = false := bne_eq_false_iff_eq.mpr c17
        clear c17
        by_cases c18 : t186 = 0
        · rw [if_pos c18] at H
          have c18b0 : (t186 == 0) = true := beq_iff_eq.mpr c18
          have c18b1 : (t186 != 0) = false := bne_eq_false_iff_eq.mpr c18
          clear c18
          by_cases c19 : t193 = 0
          · rw [if_pos c19] at H
            have c19b0 : (t193 == 0) = true := beq_iff_eq.mpr c19
            have c19b1 : (t193 != 0) = false := bne_eq_false_iff_eq.mpr c19
            clear c19
            by_cases c20 : t200 = 4
            · rw [if_pos c20] at H
              have c20b0 : (t200 == 4) = true := beq_iff_eq.mpr c20
              have c20b1 : (t200 != 4) = false := bne_eq_false_iff_eq.mpr c20
              clear c20
              by_cases c21 : t207 = 0
              · rw [if_pos c21] at H
                have c21b0 : (t207 == 0) = true := beq_iff_eq.mpr c21
                have c21b1 : (t207 != 0) = false := bne_eq_false_iff_eq.mpr c21
                clear c21
                by_cases c22 : t214 = 7
                · rw [if_pos c22] at H
                  have c22b0 : (t214 == 7) = true := beq_iff_eq.mpr c22
                  have c22b1 : (t214 != 7) = false := bne_eq_false_iff_eq.mpr c22
                  clear c22
                  by_cases c23 : t221 = 0
                  · rw [if_pos c23] at H
                    have c23b0 : (t221 == 0) = true := beq_iff_eq.mpr c23
                    have c23b1 : (t221 != 0) = false := bne_eq_false_iff_eq.mpr c23
                    clear c23
                    by_cases c24 : t228 = 4
                    · rw [if_pos c24] at H
                      have c24b0 : (t228 == 4) = true := beq_iff_eq.mpr c24
                      have c24b1 : (t228 != 4) = false := bne_eq_false_iff_eq.mpr c24
                      clear c24
                      replace H := Option.bind_eq_some_iff.mp H
                      obtain ⟨⟨t256, t257, t258, t259, t260, t261, t262⟩, A250, H⟩ := H
                      replace H : (if t256 = 6 then ((life_Life_Final.f t257 t258 t259 t260 t261 t262).bind fun bt263 => (if bt263.1 = true then ((life_Life_Epoch.f bt263.2.1 bt263.2.2.1 bt263.2.2.2.1 bt263.2.2.2.2.1 bt263.2.2.2.2.2.1 bt263.2.2.2.2.2.2).bind fun bt270 => (if bt270.1 = 3 then ((life_Life_Stopped.f bt270.2.1 bt270.2.2.1 bt270.2.2.2.1 bt270.2.2.2.2.1 bt270.2.2.2.2.2.1 bt270.2.2.2.2.2.2).bind fun bt277 => (if bt277.1 = 1 then ((life_Life_Missed.f bt277.2.1 bt277.2.2.1 bt277.2.2.2.1 bt277.2.2.2.2.1 bt277.2.2.2.2.2.1 bt277.2.2.2.2.2.2).bind fun bt284 => (some (bt284.1 == 2))) else (some false))) else (some false))) else (some false))) else (some false)) = some true := H
                      have A25 := Aside0.mk A250
                      clear A250
                      by_cases c26 : t256 = 6
                      · rw [if_pos c26] at H
                        have c26b0 : (t256 == 6) = true := beq_iff_eq.mpr c26
                        have c26b1 : (t256 != 6) = false := bne_eq_false_iff_eq.mpr c26
                        clear c26
                        replace H := Option.bind_eq_some_iff.mp H
                        obtain ⟨⟨t263, t264, t265, t266, t267, t268, t269⟩, A270, H⟩ := H
                        replace H : (if t263 = true then ((life_Life_Epoch.f t264 t265 t266 t267 t268 t269).bind fun bt270 => (if bt270.1 = 3 then ((life_Life_Stopped.f bt270.2.1 bt270.2.2.1 bt270.2.2.2.1 bt270.2.2.2.2.1 bt270.2.2.2.2.2.1 bt270.2.2.2.2.2.2).bind fun bt277 => (if bt277.1 = 1 then ((life_Life_Missed.f bt277.2.1 bt277.2.2.1 bt277.2.2.2.1 bt277.2.2.2.2.1 bt277.2.2.2.2.2.1 bt277.2.2.2.2.2.2).bind fun bt284 => (some (bt284.1 == 2))) else (some false))) else (some false))) else (some false)) = some true := H
                        have A27 := Aside0.mk A270
                        clear A270
                        by_cases c28 : t263 = true
                        · subst c28
                          have H1 : ((life_Life_Epoch.f t264 t265 t266 t267 t268 t269).bind fun bt270 => (if bt270.1 = 3 then ((life_Life_Stopped.f bt270.2.1 bt270.2.2.1 bt270.2.2.2.1 bt270.2.2.2.2.1 bt270.2.2.2.2.2.1 bt270.2.2.2.2.2.2).bind fun bt277 => (if bt277.1 = 1 then ((life_Life_Missed.f bt277.2.1 bt277.2.2.1 bt277.2.2.2.1 bt277.2.2.2.2.1 bt277.2.2.2.2.2.1 bt277.2.2.2.2.2.2).bind fun bt284 => (some (bt284.1 == 2))) else (some false))) else (some false))) = some true := by rw [if_pos rfl] at H; exact H
                          clear H
                          have H := H1
                          clear H1
                          replace H := Option.bind_eq_some_iff.mp H
                          obtain ⟨⟨t270, t271, t272, t273, t274, t275, t276⟩, A290, H⟩ := H
                          replace H : (if t270 = 3 then ((life_Life_Stopped.f t271 t272 t273 t274 t275 t276).bind fun bt277 => (if bt277.1 = 1 then ((life_Life_Missed.f bt277.2.1 bt277.2.2.1 bt277.2.2.2.1 bt277.2.2.2.2.1 bt277.2.2.2.2.2.1 bt277.2.2.2.2.2.2).bind fun bt284 => (some (bt284.1 == 2))) else (some false))) else (some false)) = some true := H
                          have A29 := Aside0.mk A290
                          clear A290
                          by_cases c30 : t270 = 3
                          · rw [if_pos c30] at H
                            have c30b0 : (t270 == 3) = true := beq_iff_eq.mpr c30
                            have c30b1 : (t270 != 3) = false := bne_eq_false_iff_eq.mpr c30
                            clear c30
                            replace H := Option.bind_eq_some_iff.mp H
                            obtain ⟨⟨t277, t278, t279, t280, t281, t282, t283⟩, A310, H⟩ := H
                            replace H : (if t277 = 1 then ((life_Life_Missed.f t278 t279 t280 t281 t282 t283).bind fun bt284 => (some (bt284.1 == 2))) else (some false)) = some true := H
                            have A31 := Aside0.mk A310
                            clear A310
                            by_cases c32 : t277 = 1
                            · rw [if_pos c32] at H
                              have c32b0 : (t277 == 1) = true := beq_iff_eq.mpr c32
                              have c32b1 : (t277 != 1) = false := bne_eq_false_iff_eq.mpr c32
                              clear c32
                              replace H := Option.bind_eq_some_iff.mp H
                              obtain ⟨⟨t284, t285, t286, t287, t288, t289, t290⟩, A330, H⟩ := H
                              replace H : (some (t284 == 2)) = some true := H
                              have A33 := Aside0.mk A330
                              clear A330
                              have HT_ := Option.some.inj H
                              clear H
                              go_enter Try.func31, Try.ntmps31
                              go_wp2_with (first | ((with_reducible refine gate_callee (f := 32) rfl ?_); refine goesL_ (some 12) rfl rfl Try.func32 (by kernel_rfl) rfl #[.int .i64 2, .int .i64 1] rfl (by (try simp only [List.map_toArray, List.map_cons, List.map_nil]); first | done | rfl | (simp only [List.length_drop, List.length_take]; rfl)) ?_; (with_reducible refine (life_New.calls 2 1 t158 t159 t160 t161 t162 t163 w _ ?side1 A1.out).mono ?_); (case side1 => repeat (first | (with_reducible first | exact HB.out | apply below_alloc | apply pw_below_drewN | apply below_drew1) | exact HB.out)); rintro e w34 ⟨g164, rfl, hi, hb, hb2⟩; refine ⟨_, rfl, ?_⟩; have n0_ := Aside0.mk (hb); have n1_ := Aside0.mk (hi); clear HB; have HB := n0_; have HI164 := n1_; clear n0_ n1_; (try clear hb); (try clear hb2); (try clear hk); (try clear hi)) | ((with_reducible refine gate_callee (f := 34) rfl ?_); refine goesL_ (some 16) rfl rfl Try.func34 (by kernel_rfl) rfl #[.pointer (some ⟨g164, 0, none⟩)] rfl (by (try simp only [List.map_toArray, List.map_cons, List.map_nil]); first | done | rfl | (simp only [List.length_drop, List.length_take]; rfl)) ?_; (with_reducible refine (life_Life_Start.calls k g164 t158 t159 t160 t161 t162 t163 t165 t166 t167 t168 t169 t170 t171 w _ ?side1 ?side2 A2.out).mono ?_); (case side1 => repeat (first | (with_reducible first | exact HI164.out | apply IsS79.alloc | apply IsS79.drewN | apply IsS79.drew | apply IsS79.set_0 | apply IsS79.set_1 | apply IsS79.set_2 | apply IsS79.set_3 | apply IsS79.set_4 | apply IsS79.set_5) | exact HI164.out)); (case side2 => repeat (first | (with_reducible first | exact HB.out | apply below_alloc | apply pw_below_drewN | apply below_drew1 | refine below_set ?_ (IsS79.ge HI164.out)) | exact HB.out)); rintro e w35 ⟨rfl, hi, hb, hk⟩; refine ⟨_, rfl, ?_⟩; have n0_ := Aside0.mk (hb); have n1_ := Aside0.mk (hi); clear HB; clear HI164; have HB := n0_; have HI164 := n1_; clear n0_ n1_; (try clear hb); (try clear hb2); (try clear hk); (try clear hi)) | ((with_reducible refine gate_callee (f := 33) rfl ?_); refine goesL_ (some 18) rfl rfl Try.func33 (by kernel_rfl) rfl #[.pointer (some ⟨g164, 0, none⟩)] rfl (by (try simp only [List.map_toArray, List.map_cons, List.map_nil]); first | done | rfl | (simp only [List.length_drop, List.length_take]; rfl)) ?_; (with_reducible refine (life_Life_Want.calls k g164 t166 t167 t168 t169 t170 t171 t172 t173 t174 t175 t176 t177 t178 w _ ?side1 ?side2 A3.out).mono ?_); (case side1 => repeat (first | (with_reducible first | exact HI164.out | apply IsS79.alloc | apply IsS79.drewN | apply IsS79.drew | apply IsS79.set_0 | apply IsS79.set_1 | apply IsS79.set_2 | apply IsS79.set_3 | apply IsS79.set_4 | apply IsS79.set_5) | exact HI164.out)); (case side2 => repeat (first | (with_reducible first | exact HB.out | apply below_alloc | apply pw_below_drewN | apply below_drew1 | refine below_set ?_ (IsS79.ge HI164.out)) | exact HB.out)); rintro e w36 ⟨rfl, hi, hb, hk⟩; refine ⟨_, rfl, ?_⟩; have n0_ := Aside0.mk (hb); have n1_ := Aside0.mk (hi); clear HB; clear HI164; have HB := n0_; have HI164 := n1_; clear n0_ n1_; (try clear hb); (try clear hb2); (try clear hk); (try clear hi)) | ((with_reducible refine gate_callee (f := 34) rfl ?_); refine goesL_ (some 20) rfl rfl Try.func34 (by kernel_rfl) rfl #[.pointer (some ⟨g164, 0, none⟩)] rfl (by (try simp only [List.map_toArray, List.map_cons, List.map_nil]); first | done | rfl | (simp only [List.length_drop, List.length_take]; rfl)) ?_; (with_reducible refine (life_Life_Start.calls k g164 t173 t174 t175 t176 t177 t178 t179 t180 t181 t182 t183 t184 t185 w _ ?side1 ?side2 A4.out).mono ?_); (case side1 => repeat (first | (with_reducible first | exact HI164.out | apply IsS79.alloc | apply IsS79.drewN | apply IsS79.drew | apply IsS79.set_0 | apply IsS79.set_1 | apply IsS79.set_2 | apply IsS79.set_3 | apply IsS79.set_4 | apply IsS79.set_5) | exact HI164.out)); (case side2 => repeat (first | (with_reducible first | exact HB.out | apply below_alloc | apply pw_below_drewN | apply below_drew1 | refine below_set ?_ (IsS79.ge HI164.out)) | exact HB.out)); rintro e w37 ⟨rfl, hi, hb, hk⟩; refine ⟨_, rfl, ?_⟩; have n0_ := Aside0.mk (hb); have n1_ := Aside0.mk (hi); clear HB; clear HI164; have HB := n0_; have HI164 := n1_; clear n0_ n1_; (try clear hb); (try clear hb2); (try clear hk); (try clear hi)) | ((with_reducible refine gate_callee (f := 35) rfl ?_); refine goesL_ (some 22) rfl rfl Try.func35 (by kernel_rfl) rfl #[.pointer (some ⟨g164, 0, none⟩)] rfl (by (try simp only [List.map_toArray, List.map_cons, List.map_nil]); first | done | rfl | (simp only [List.length_drop, List.length_take]; rfl)) ?_; (with_reducible refine (life_Life_Stop.calls k g164 t180 t181 t182 t183 t184 t185 t186 t187 t188 t189 t190 t191 t192 w _ ?side1 ?side2 A5.out).mono ?_); (case side1 => repeat (first | (with_reducible first | exact HI164.out | apply IsS79.alloc | apply IsS79.drewN | apply IsS79.drew | apply IsS79.set_0 | apply IsS79.set_1 | apply IsS79.set_2 | apply IsS79.set_3 | apply IsS79.set_4 | apply IsS79.set_5) | exact HI164.out)); (case side2 => repeat (first | (with_reducible first | exact HB.out | apply below_alloc | apply pw_below_drewN | apply below_drew1 | refine below_set ?_ (IsS79.ge HI164.out)) | exact HB.out)); rintro e w38 ⟨rfl, hi, hb, hk⟩; refine ⟨_, rfl, ?_⟩; have n0_ := Aside0.mk (hb); have n1_ := Aside0.mk (hi); clear HB; clear HI164; have HB := n0_; have HI164 := n1_; clear n0_ n1_; (try clear hb); (try clear hb2); (try clear hk); (try clear hi)) | ((with_reducible refine gate_callee (f := 34) rfl ?_); refine goesL_ (some 24) rfl rfl Try.func34 (by kernel_rfl) rfl #[.pointer (some ⟨g164, 0, none⟩)] rfl (by (try simp only [List.map_toArray, List.map_cons, List.map_nil]); first | done | rfl | (simp only [List.length_drop, List.length_take]; rfl)) ?_; (with_reducible refine (life_Life_Start.calls k g164 t187 t188 t189 t190 t191 t192 t193 t194 t195 t196 t197 t198 t199 w _ ?side1 ?side2 A6.out).mono ?_); (case side1 => repeat (first | (with_reducible first | exact HI164.out | apply IsS79.alloc | apply IsS79.drewN | apply IsS79.drew | apply IsS79.set_0 | apply IsS79.set_1 | apply IsS79.set_2 | apply IsS79.set_3 | apply IsS79.set_4 | apply IsS79.set_5) | exact HI164.out)); (case side2 => repeat (first | (with_reducible first | exact HB.out | apply below_alloc | apply pw_below_drewN | apply below_drew1 | refine below_set ?_ (IsS79.ge HI164.out)) | exact HB.out)); rintro e w39 ⟨rfl, hi, hb, hk⟩; refine ⟨_, rfl, ?_⟩; have n0_ := Aside0.mk (hb); have n1_ := Aside0.mk (hi); clear HB; clear HI164; have HB := n0_; have HI164 := n1_; clear n0_ n1_; (try clear hb); (try clear hb2); (try clear hk); (try clear hi)) | ((with_reducible refine gate_callee (f := 35) rfl ?_); refine goesL_ (some 26) rfl rfl Try.func35 (by kernel_rfl) rfl #[.pointer (some ⟨g164, 0, none⟩)] rfl (by (try simp only [List.map_toArray, List.map_cons, List.map_nil]); first | done | rfl | (simp only [List.length_drop, List.length_take]; rfl)) ?_; (with_reducible refine (life_Life_Stop.calls k g164 t194 t195 t196 t197 t198 t199 t200 t201 t202 t203 t204 t205 t206 w _ ?side1 ?side2 A7.out).mono ?_); (case side1 => repeat (first | (with_reducible first | exact HI164.out | apply IsS79.alloc | apply IsS79.drewN | apply IsS79.drew | apply IsS79.set_0 | apply IsS79.set_1 | apply IsS79.set_2 | apply IsS79.set_3 | apply IsS79.set_4 | apply IsS79.set_5) | exact HI164.out)); (case side2 => repeat (first | (with_reducible first | exact HB.out | apply below_alloc | apply pw_below_drewN | apply below_drew1 | refine below_set ?_ (IsS79.ge HI164.out)) | exact HB.out)); rintro e w40 ⟨rfl, hi, hb, hk⟩; refine ⟨_, rfl, ?_⟩; have n0_ := Aside0.mk (hb); have n1_ := Aside0.mk (hi); clear HB; clear HI164; have HB := n0_; have HI164 := n1_; clear n0_ n1_; (try clear hb); (try clear hb2); (try clear hk); (try clear hi)) | ((with_reducible refine gate_callee (f := 49) rfl ?_); refine goesL_ (some 28) rfl rfl Try.func49 (by kernel_rfl) rfl #[.pointer (some ⟨g164, 0, none⟩), .int .i64 2] rfl (by (try simp only [List.map_toArray, List.map_cons, List.map_nil]); first | done | rfl | (simp only [List.length_drop, List.length_take]; rfl)) ?_; (with_reducible refine (life_Life_Right.calls g164 t201 t202 t203 t204 t205 t206 2 t207 t208 t209 t210 t211 t212 t213 w _ ?side1 ?side2 A8.out).mono ?_); (case side1 => repeat (first | (with_reducible first | exact HI164.out | apply IsS79.alloc | apply IsS79.drewN | apply IsS79.drew | apply IsS79.set_0 | apply IsS79.set_1 | apply IsS79.set_2 | apply IsS79.set_3 | apply IsS79.set_4 | apply IsS79.set_5) | exact HI164.out)); (case side2 => repeat (first | (with_reducible first | exact HB.out | apply below_alloc | apply pw_below_drewN | apply below_drew1 | refine below_set ?_ (IsS79.ge HI164.out)) | exact HB.out)); rintro e w41 ⟨rfl, hi, hb, hk⟩; refine ⟨_, rfl, ?_⟩; have n0_ := Aside0.mk (hb); have n1_ := Aside0.mk (hi); clear HB; clear HI164; have HB := n0_; have HI164 := n1_; clear n0_ n1_; (try clear hb); (try clear hb2); (try clear hk); (try clear hi)) | ((with_reducible refine gate_callee (f := 49) rfl ?_); refine goesL_ (some 30) rfl rfl Try.func49 (by kernel_rfl) rfl #[.pointer (some ⟨g164, 0, none⟩), .int .i64 1] rfl (by (try simp only [List.map_toArray, List.map_cons, List.map_nil]); first | done | rfl | (simp only [List.length_drop, List.length_take]; rfl)) ?_; (with_reducible refine (life_Life_Right.calls g164 t208 t209 t210 t211 t212 t213 1 t214 t215 t216 t217 t218 t219 t220 w _ ?side1 ?side2 A9.out).mono ?_); (case side1 => repeat (first | (with_reducible first | exact HI164.out | apply IsS79.alloc | apply IsS79.drewN | apply IsS79.drew | apply IsS79.set_0 | apply IsS79.set_1 | apply IsS79.set_2 | apply IsS79.set_3 | apply IsS79.set_4 | apply IsS79.set_5) | exact HI164.out)); (case side2 => repeat (first | (with_reducible first | exact HB.out | apply below_alloc | apply pw_below_drewN | apply below_drew1 | refine below_set ?_ (IsS79.ge HI164.out)) | exact HB.out)); rintro e w42 ⟨rfl, hi, hb, hk⟩; refine ⟨_, rfl, ?_⟩; have n0_ := Aside0.mk (hb); have n1_ := Aside0.mk (hi); clear HB; clear HI164; have HB := n0_; have HI164 := n1_; clear n0_ n1_; (try clear hb); (try clear hb2); (try clear hk); (try clear hi)) | ((with_reducible refine gate_callee (f := 36) rfl ?_); refine goesL_ (some 32) rfl rfl Try.func36 (by kernel_rfl) rfl #[.pointer (some ⟨g164, 0, none⟩)] rfl (by (try simp only [List.map_toArray, List.map_cons, List.map_nil]); first | done | rfl | (simp only [List.length_drop, List.length_take]; rfl)) ?_; (with_reducible refine (life_Life_Miss.calls k g164 t215 t216 t217 t218 t219 t220 t221 t222 t223 t224 t225 t226 t227 w _ ?side1 ?side2 A10.out).mono ?_); (case side1 => repeat (first | (with_reducible first | exact HI164.out | apply IsS79.alloc | apply IsS79.drewN | apply IsS79.drew | apply IsS79.set_0 | apply IsS79.set_1 | apply IsS79.set_2 | apply IsS79.set_3 | apply IsS79.set_4 | apply IsS79.set_5) | exact HI164.out)); (case side2 => repeat (first | (with_reducible first | exact HB.out | apply below_alloc | apply pw_below_drewN | apply below_drew1 | refine below_set ?_ (IsS79.ge HI164.out)) | exact HB.out)); rintro e w43 ⟨rfl, hi, hb, hk⟩; refine ⟨_, rfl, ?_⟩; have n0_ := Aside0.mk (hb); have n1_ := Aside0.mk (hi); clear HB; clear HI164; have HB := n0_; have HI164 := n1_; clear n0_ n1_; (try clear hb); (try clear hb2); (try clear hk); (try clear hi)) | ((with_reducible refine gate_callee (f := 37) rfl ?_); refine goesL_ (some 34) rfl rfl Try.func37 (by kernel_rfl) rfl #[.pointer (some ⟨g164, 0, none⟩)] rfl (by (try simp only [List.map_toArray, List.map_cons, List.map_nil]); first | done | rfl | (simp only [List.length_drop, List.length_take]; rfl)) ?_; (with_reducible refine (life_Life_State.calls g164 t222 t223 t224 t225 t226 t227 t228 t229 t230 t231 t232 t233 t234 w _ ?side1 ?side2 A11.out).mono ?_); (case side1 => repeat (first | (with_reducible first | exact HI164.out | apply IsS79.alloc | apply IsS79.drewN | apply IsS79.drew | apply IsS79.set_0 | apply IsS79.set_1 | apply IsS79.set_2 | apply IsS79.set_3 | apply IsS79.set_4 | apply IsS79.set_5) | exact HI164.out)); (case side2 => repeat (first | (with_reducible first | exact HB.out | apply below_alloc | apply pw_below_drewN | apply below_drew1 | refine below_set ?_ (IsS79.ge HI164.out)) | exact HB.out)); rintro e w44 ⟨rfl, hi, hb, hk⟩; refine ⟨_, rfl, ?_⟩; have n0_ := Aside0.mk (hb); have n1_ := Aside0.mk (hi); clear HB; clear HI164; have HB := n0_; have HI164 := n1_; clear n0_ n1_; (try clear hb); (try clear hb2); (try clear hk); (try clear hi)) | ((with_reducible refine gate_callee (f := 38) rfl ?_); refine goesL_ (some 36) rfl rfl Try.func38 (by kernel_rfl) rfl #[.pointer (some ⟨g164, 0, none⟩)] rfl (by (try simp only [List.map_toArray, List.map_cons, List.map_nil]); first | done | rfl | (simp only [List.length_drop, List.length_take]; rfl)) ?_; (with_reducible refine (life_Life_Rested.calls k g164 t229 t230 t231 t232 t233 t234 t235 t236 t237 t238 t239 t240 t241 w _ ?side1 ?side2 A12.out).mono ?_); (case side1 => repeat (first | (with_reducible first | exact HI164.out | apply IsS79.alloc | apply IsS79.drewN | apply IsS79.drew | apply IsS79.set_0 | apply IsS79.set_1 | apply IsS79.set_2 | apply IsS79.set_3 | apply IsS79.set_4 | apply IsS79.set_5) | exact HI164.out)); (case side2 => repeat (first | (with_reducible first | exact HB.out | apply below_alloc | apply pw_below_drewN | apply below_drew1 | refine below_set ?_ (IsS79.ge HI164.out)) | exact HB.out)); rintro e w45 ⟨rfl, hi, hb, hk⟩; refine ⟨_, rfl, ?_⟩; have n0_ := Aside0.mk (hb); have n1_ := Aside0.mk (hi); clear HB; clear HI164; have HB := n0_; have HI164 := n1_; clear n0_ n1_; (try clear hb); (try clear hb2); (try clear hk); (try clear hi)) | ((with_reducible refine gate_callee (f := 34) rfl ?_); refine goesL_ (some 38) rfl rfl Try.func34 (by kernel_rfl) rfl #[.pointer (some ⟨g164, 0, none⟩)] rfl (by (try simp only [List.map_toArray, List.map_cons, List.map_nil]); first | done | rfl | (simp only [List.length_drop, List.length_take]; rfl)) ?_; (with_reducible refine (life_Life_Start.calls k g164 t236 t237 t238 t239 t240 t241 t242 t243 t244 t245 t246 t247 t248 w _ ?side1 ?side2 A13.out).mono ?_); (case side1 => repeat (first | (with_reducible first | exact HI164.out | apply IsS79.alloc | apply IsS79.drewN | apply IsS79.drew | apply IsS79.set_0 | apply IsS79.set_1 | apply IsS79.set_2 | apply IsS79.set_3 | apply IsS79.set_4 | apply IsS79.set_5) | exact HI164.out)); (case side2 => repeat (first | (with_reducible first | exact HB.out | apply below_alloc | apply pw_below_drewN | apply below_drew1 | refine below_set ?_ (IsS79.ge HI164.out)) | exact HB.out)); rintro e w46 ⟨rfl, hi, hb, hk⟩; refine ⟨_, rfl, ?_⟩; have n0_ := Aside0.mk (hb); have n1_ := Aside0.mk (hi); clear HB; clear HI164; have HB := n0_; have HI164 := n1_; clear n0_ n1_; (try clear hb); (try clear hb2); (try clear hk); (try clear hi)) | ((with_reducible refine gate_callee (f := 36) rfl ?_); refine goesL_ (some 40) rfl rfl Try.func36 (by kernel_rfl) rfl #[.pointer (some ⟨g164, 0, none⟩)] rfl (by (try simp only [List.map_toArray, List.map_cons, List.map_nil]); first | done | rfl | (simp only [List.length_drop, List.length_take]; rfl)) ?_; (with_reducible refine (life_Life_Miss.calls k g164 t243 t244 t245 t246 t247 t248 t249 t250 t251 t252 t253 t254 t255 w _ ?side1 ?side2 A14.out).mono ?_); (case side1 => repeat (first | (with_reducible first | exact HI164.out | apply IsS79.alloc | apply IsS79.drewN | apply IsS79.drew | apply IsS79.set_0 | apply IsS79.set_1 | apply IsS79.set_2 | apply IsS79.set_3 | apply IsS79.set_4 | apply IsS79.set_5) | exact HI164.out)); (case side2 => repeat (first | (with_reducible first | exact HB.out | apply below_alloc | apply pw_below_drewN | apply below_drew1 | refine below_set ?_ (IsS79.ge HI164.out)) | exact HB.out)); rintro e w47 ⟨rfl, hi, hb, hk⟩; refine ⟨_, rfl, ?_⟩; have n0_ := Aside0.mk (hb); have n1_ := Aside0.mk (hi); clear HB; clear HI164; have HB := n0_; have HI164 := n1_; clear n0_ n1_; (try clear hb); (try clear hb2); (try clear hk); (try clear hi)) | (go_at_call 37; (with_reducible refine (life_Life_State.calls g164 t250 t251 t252 t253 t254 t255 t256 t257 t258 t259 t260 t261 t262 w _ ?side1 ?side2 A25.out).mono ?_); (case side1 => repeat (first | (with_reducible first | exact HI164.out | apply IsS79.alloc | apply IsS79.drewN | apply IsS79.drew | apply IsS79.set_0 | apply IsS79.set_1 | apply IsS79.set_2 | apply IsS79.set_3 | apply IsS79.set_4 | apply IsS79.set_5) | exact HI164.out)); (case side2 => repeat (first | (with_reducible first | exact HB.out | apply below_alloc | apply pw_below_drewN | apply below_drew1 | refine below_set ?_ (IsS79.ge HI164.out)) | exact HB.out)); rintro e w48 ⟨rfl, hi, hb, hk⟩; have n0_ := Aside0.mk (hb); have n1_ := Aside0.mk (hi); clear HB; clear HI164; have HB := n0_; have HI164 := n1_; clear n0_ n1_; (try clear hb); (try clear hb2); (try clear hk); (try clear hi)) | (go_at_call 42; (with_reducible refine (life_Life_Final.calls g164 t257 t258 t259 t260 t261 t262 true t264 t265 t266 t267 t268 t269 w _ ?side1 ?side2 A27.out).mono ?_); (case side1 => repeat (first | (with_reducible first | exact HI164.out | apply IsS79.alloc | apply IsS79.drewN | apply IsS79.drew | apply IsS79.set_0 | apply IsS79.set_1 | apply IsS79.set_2 | apply IsS79.set_3 | apply IsS79.set_4 | apply IsS79.set_5) | exact HI164.out)); (case side2 => repeat (first | (with_reducible first | exact HB.out | apply below_alloc | apply pw_below_drewN | apply below_drew1 | refine below_set ?_ (IsS79.ge HI164.out)) | exact HB.out)); rintro e w49 ⟨rfl, hi, hb, hk⟩; have n0_ := Aside0.mk (hb); have n1_ := Aside0.mk (hi); clear HB; clear HI164; have HB := n0_; have HI164 := n1_; clear n0_ n1_; (try clear hb); (try clear hb2); (try clear hk); (try clear hi)) | (go_at_call 41; (with_reducible refine (life_Life_Epoch.calls g164 t264 t265 t266 t267 t268 t269 t270 t271 t272 t273 t274 t275 t276 w _ ?side1 ?side2 A29.out).mono ?_); (case side1 => repeat (first | (with_reducible first | exact HI164.out | apply IsS79.alloc | apply IsS79.drewN | apply IsS79.drew | apply IsS79.set_0 | apply IsS79.set_1 | apply IsS79.set_2 | apply IsS79.set_3 | apply IsS79.set_4 | apply IsS79.set_5) | exact HI164.out)); (case side2 => repeat (first | (with_reducible first | exact HB.out | apply below_alloc | apply pw_below_drewN | apply below_drew1 | refine below_set ?_ (IsS79.ge HI164.out)) | exact HB.out)); rintro e w50 ⟨rfl, hi, hb, hk⟩; have n0_ := Aside0.mk (hb); have n1_ := Aside0.mk (hi); clear HB; clear HI164; have HB := n0_; have HI164 := n1_; clear n0_ n1_; (try clear hb); (try clear hb2); (try clear hk); (try clear hi)) | (go_at_call 40; (with_reducible refine (life_Life_Stopped.calls g164 t271 t272 t273 t274 t275 t276 t277 t278 t279 t280 t281 t282 t283 w _ ?side1 ?side2 A31.out).mono ?_); (case side1 => repeat (first | (with_reducible first | exact HI164.out | apply IsS79.alloc | apply IsS79.drewN | apply IsS79.drew | apply IsS79.set_0 | apply IsS79.set_1 | apply IsS79.set_2 | apply IsS79.set_3 | apply IsS79.set_4 | apply IsS79.set_5) | exact HI164.out)); (case side2 => repeat (first | (with_reducible first | exact HB.out | apply below_alloc | apply pw_below_drewN | apply below_drew1 | refine below_set ?_ (IsS79.ge HI164.out)) | exact HB.out)); rintro e w51 ⟨rfl, hi, hb, hk⟩; have n0_ := Aside0.mk (hb); have n1_ := Aside0.mk (hi); clear HB; clear HI164; have HB := n0_; have HI164 := n1_; clear n0_ n1_; (try clear hb); (try clear hb2); (try clear hk); (try clear hi)) | (go_at_call 39; (with_reducible refine (life_Life_Missed.calls g164 t278 t279 t280 t281 t282 t283 t284 t285 t286 t287 t288 t289 t290 w _ ?side1 ?side2 A33.out).mono ?_); (case side1 => repeat (first | (with_reducible first | exact HI164.out | apply IsS79.alloc | apply IsS79.drewN | apply IsS79.drew | apply IsS79.set_0 | apply IsS79.set_1 | apply IsS79.set_2 | apply IsS79.set_3 | apply IsS79.set_4 | apply IsS79.set_5) | exact HI164.out)); (case side2 => repeat (first | (with_reducible first | exact HB.out | apply below_alloc | apply pw_below_drewN | apply below_drew1 | refine below_set ?_ (IsS79.ge HI164.out)) | exact HB.out)); rintro e w52 ⟨rfl, hi, hb, hk⟩; have n0_ := Aside0.mk (hb); have n1_ := Aside0.mk (hi); clear HB; clear HI164; have HB := n0_; have HI164 := n1_; clear n0_ n1_; (try clear hb); (try clear hb2); (try clear hk); (try clear hi)))
                              go_ret
                              exact ⟨by first | rfl | (simp [errW_none, errW_some] <;> rfl) | (simp [*, errW_none, errW_some] <;> rfl), by repeat (first | (with_reducible first | exact HB.out | apply below_alloc | apply pw_below_drewN | apply below_drew1 | refine below_set ?_ (IsS79.ge HI164.out)) | exact HB.out)⟩
                            · rw [if_neg c32] at H
                              have c32b0 : (t277 == 1) = false := beq_eq_false_iff_ne.mpr c32
                              have c32b1 : (t277 != 1) = true := bne_iff_ne.mpr c32
                              exact absurd H (by simp)
                          · rw [if_neg c30] at H
                            have c30b0 : (t270 == 3) = false := beq_eq_false_iff_ne.mpr c30
                            have c30b1 : (t270 != 3) = true := bne_iff_ne.mpr c30
                            exact absurd H (by simp)
                        · replace c28 := Bool.eq_false_iff.mpr c28
                          subst c28
                          have H1 : (some false) = some true := by rw [if_neg (show ¬ (false = true) by decide)] at H; exact H
                          clear H
                          have H := H1
                          clear H1
                          exact absurd H (by simp)
                      · rw [if_neg c26] at H
                        have c26b0 : (t256 == 6) = false := beq_eq_false_iff_ne.mpr c26
                        have c26b1 : (t256 != 6) = true := bne_iff_ne.mpr c26
                        exact absurd H (by simp)
                    · rw [if_neg c24] at H
                      have c24b0 : (t228 == 4) = false := beq_eq_false_iff_ne.mpr c24
                      have c24b1 : (t228 != 4) = true := bne_iff_ne.mpr c24
                      exact absurd H (by simp)
                  · rw [if_neg c23] at H
                    have c23b0 : (t221 == 0) = false := beq_eq_false_iff_ne.mpr c23
                    have c23b1 : (t221 != 0) = true := bne_iff_ne.mpr c23
                    exact absurd H (by simp)
                · rw [if_neg c22] at H
                  have c22b0 : (t214 == 7) = false := beq_eq_false_iff_ne.mpr c22
                  have c22b1 : (t214 != 7) = true := bne_iff_ne.mpr c22
                  exact absurd H (by simp)
              · rw [if_neg c21] at H
                have c21b0 : (t207 == 0) = false := beq_eq_false_iff_ne.mpr c21
                have c21b1 : (t207 != 0) = true := bne_iff_ne.mpr c21
                exact absurd H (by simp)
            · rw [if_neg c20] at H
              have c20b0 : (t200 == 4) = false := beq_eq_false_iff_ne.mpr c20
              have c20b1 : (t200 != 4) = true := bne_iff_ne.mpr c20
              exact absurd H (by simp)
          · rw [if_neg c19] at H
            have c19b0 : (t193 == 0) = false := beq_eq_false_iff_ne.mpr c19
            have c19b1 : (t193 != 0) = true := bne_iff_ne.mpr c19
            exact absurd H (by simp)
        · rw [if_neg c18] at H
          have c18b0 : (t186 == 0) = false := beq_eq_false_iff_ne.mpr c18
          have c18b1 : (t186 != 0) = true := bne_iff_ne.mpr c18
          exact absurd H (by simp)
      · rw [if_neg c17] at H
        have c17b0 : (t179 == 0) = false := beq_eq_false_iff_ne.mpr c17
        have c17b1 : (t179 != 0) = true := bne_iff_ne.mpr c17
        exact absurd H (by simp)
    · rw [if_neg c16] at H
      have c16b0 : (t172 == 0) = false := beq_eq_false_iff_ne.mpr c16
      have c16b1 : (t172 != 0) = true := bne_iff_ne.mpr c16
      exact absurd H (by simp)
  · rw [if_neg c15] at H
    have c15b0 : (t165 == 8) = false := beq_eq_false_iff_ne.mpr c15
    have c15b1 : (t165 != 8) = true := bne_iff_ne.mpr c15
    exact absurd H (by simp)
theorem millwrightlaw09_shown.true_ (k : Nat) (r : Bool) (h : millwrightlaw09_shown.f k  = some r) : r = true := by
  have h1 := at_rounds millwrightlaw09_shown.mono (Nat.le_max_left k 90) h
  have h2 : millwrightlaw09_shown.f 90 = some true := by decide +kernel
  have h3 := at_rounds millwrightlaw09_shown.mono (Nat.le_max_right k 90) h2
  rw [h1] at h3
  exact Option.some.inj h3
theorem millwrightlaw09_shown.calls (k : Nat) (r : Bool) (w : World) (h : millwrightlaw09_shown.f k  = some r) :
    Calls Try.prog 31 #[] w fun e w' => e = .returned (.bool r) ∧ Below w.heap.size w w' := by
  obtain rfl := millwrightlaw09_shown.true_ k  r h
  exact millwrightlaw09_shown.callsT k  w h

end Go.Proofs.Ytkldfjlbgmppfaa.MLifeFails
