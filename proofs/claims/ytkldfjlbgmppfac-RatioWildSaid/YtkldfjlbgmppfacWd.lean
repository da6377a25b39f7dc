import Derived.Test.YtkldfjlbgmppfacWc
namespace Go.Proofs.Ytkldfjlbgmppfac.Fl
open Go.RowKit Go.Proofs.YtkldfjlbgmppfacW.PrintWords Go.Proofs.YtkldfjlbgmppfacW.PrintLast Go.Proofs.YtkldfjlbgmppfacW.PrintMore
open Ieee
set_option linter.unusedVariables false
set_option linter.unusedSimpArgs false
attribute [local go_sem] max2_int min2_int max_two min_two unary_neg_float

theorem whole_zero {x : Nat} (h : (ordr x 0 == some .gt) = false) : wholeOf x = 0 := by
  unfold wholeOf
  rw [h]
  have : (ordr x 4845873199050653696 == some .gt || ordr x 4845873199050653696 == some .eq) = false := by
    rw [ordr_def, read_end]
    rw [ordr_def, read_0] at h
    cases hr : double.read x with
    | nan s f => simp [Datum.order]
    | infinity s =>
      rw [hr] at h
      cases s
      · simp [Datum.order] at h
      · simp [Datum.order]
    | number s m p =>
      rw [hr] at h
      rw [order_at _ _ _ _ _ _ (min p (-1074)) (by omega) (by omega), compare_int] at h ⊢
      have h6 : 0 < 2 ^ 52 * 2 ^ (1 - min p (-1074)).toNat := Nat.mul_pos (by decide) (Nat.two_pow_pos _)
      have hB : signed false (2 ^ 52) (1 - min p (-1074)).toNat = ((2 ^ 52 * 2 ^ (1 - min p (-1074)).toNat : Nat) : Int) := by
        unfold signed; rw [Nat.shiftLeft_eq]; simp only [Bool.false_eq_true, if_false]
      have h0 : signed false 0 (-1074 - min p (-1074)).toNat = 0 := by unfold signed; simp
      rw [hB]
      rw [h0] at h
      generalize signed s m (p - min p (-1074)).toNat = v at h ⊢
      generalize 2 ^ 52 * 2 ^ (1 - min p (-1074)).toNat = q at h6 ⊢
      by_cases c : v < 0
      · rw [if_pos (by omega)]; rfl
      · rw [if_neg c] at h
        by_cases d : v = 0
        · rw [if_pos (by omega)]; rfl
        · rw [if_neg d] at h; simp at h
  rw [this]; simp

set_option maxHeartbeats 8000000 in
set_option maxRecDepth 100000 in
theorem Weight_any (x y : Nat) (w : World) : Calls Try.prog 9 #[.complex .f64 x y] w fun e w' => e = .returned (.int .i64 (wholeOf x)) ∧ Drawn0 w w' := by
  go_enter Try.func9, Try.ntmps9
  go_wp2_with (go_at_call 18; (with_reducible refine (whole_any _ _).mono ?_); rintro e w1 ⟨rfl, ⟨n1, rfl⟩⟩)
  go_ret
  exact ⟨rfl, by repeat (first | exact Drawn0.refl _ | apply Drawn0.step)⟩
set_option maxHeartbeats 8000000 in
set_option maxRecDepth 100000 in
theorem Cost_any (x y : Nat) (w : World) : Calls Try.prog 10 #[.complex .f64 x y] w fun e w' => e = .returned (.int .i64 (wholeOf y)) ∧ Drawn0 w w' := by
  go_enter Try.func10, Try.ntmps10
  go_wp2_with (go_at_call 18; (with_reducible refine (whole_any _ _).mono ?_); rintro e w1 ⟨rfl, ⟨n1, rfl⟩⟩)
  go_ret
  exact ⟨rfl, by repeat (first | exact Drawn0.refl _ | apply Drawn0.step)⟩

theorem cellc {w : World} {g t i : Nat} {cs : Array Value} {v : Value} (h : w.heap[g]? = some (.cells cs t (0, 0))) (hv : cs[i]? = some v) : w.cell? ⟨g, i, none⟩ = some v := (blk_cell h i).trans hv

set_option maxHeartbeats 8000000 in
set_option maxRecDepth 100000 in
theorem Wild_calls (a b c d : Nat) (w : World) : Calls Try.prog 4 #[.float .f64 a, .float .f64 b, .float .f64 c, .float .f64 d] w fun e w' => e = .returned (.bool true) ∧ Below w.heap.size w w' := by
  obtain ⟨Wa, hWa⟩ : ∃ q, wholeOf a = q := ⟨_, rfl⟩
  obtain ⟨Wb, hWb⟩ : ∃ q, wholeOf b = q := ⟨_, rfl⟩
  have ra : 0 ≤ Wa ∧ Wa ≤ 9007199254740992 := by rw [← hWa]; exact wholeOf_range a
  have rb : 0 ≤ Wb ∧ Wb ≤ 9007199254740992 := by rw [← hWb]; exact wholeOf_range b
  go_enter Try.func4, Try.ntmps4
  go_upto_region 9 with (first
      | (go_at_call 5; (with_reducible refine (shown_calls _).mono ?_); rintro e w1 ⟨rfl, hb1⟩)
      | (go_at_call 8; (with_reducible refine (Compare_any _ _ _ _ _).mono ?_); rintro e w2 ⟨k, rfl, hk, ⟨n2, rfl⟩⟩; have hk1 : -1 ≤ k := by omega
         have hk2 : k ≤ 1 := by omega
         clear hk)
      | (go_at_call 9; (with_reducible refine (Weight_any _ _ _).mono ?_); rintro e w3 ⟨rfl, ⟨n3, rfl⟩⟩; simp only [hWa])
      | (go_at_call 10; (with_reducible refine (Cost_any _ _ _).mono ?_); rintro e w3 ⟨rfl, ⟨n4, rfl⟩⟩; simp only [hWb])
      | (go_at_call 11; (with_reducible refine (Sum2_any _ a b c d _ ?h0 ?h1).mono ?_); (case h0 => exact cellc (alloc_new (by first | rfl | simp)) rfl); (case h1 => exact cellc (alloc_new (by first | rfl | simp)) rfl); rintro e w4 ⟨s1, s2, rfl, ⟨n5, rfl⟩⟩)
      | (go_at_call 7; (with_reducible refine (Apart_any _ a b c d a b _ ?h0 ?h1 ?h2).mono ?_); (case h0 => exact cellc (alloc_new (by first | rfl | simp)) rfl); (case h1 => exact cellc (alloc_new (by first | rfl | simp)) rfl); (case h2 => exact cellc (alloc_new (by first | rfl | simp)) rfl); rintro e w4 ⟨s1, s2, rfl, ⟨n6, rfl⟩⟩))
  cases h1 : (ordr a 0 == some .lt) <;> cases h2 : (ordr a 4652007308841189376 == some .gt) <;> cases h3 : (ordr a a == some .eq) <;> cases h4 : (ordr b 0 == some .gt)
  all_goals try (have hz := (whole_zero h4).symm.trans hWb; subst hz)
  all_goals try (have o3 := fun w => run_convert_float_int (P := Try.prog) w 34 3 .f64 .i64 a Wa rfl rfl (by rw [whole_same h1 h2 h3, hWa]))
  all_goals simp only [beq_iff_eq, beq_eq_false_iff_ne, ne_eq] at h1 h2 h3 h4
  all_goals go_wp2
  all_goals first
    | contradiction
    | (go_ret; exact ⟨by simp, by repeat (first | exact hb1 | apply below_alloc | apply pw_below_drewN | apply below_drew1)⟩)
end Go.Proofs.Ytkldfjlbgmppfac.Fl
