import Derived.Test.YtkldfjlbgmppfacXa
namespace Go.Proofs.Ytkldfjlbgmppfac.Fl
open Go.RowKit Go.Proofs.YtkldfjlbgmppfacW.PrintWords Go.Proofs.YtkldfjlbgmppfacW.PrintLast Go.Proofs.YtkldfjlbgmppfacW.PrintMore
set_option linter.unusedVariables false
set_option linter.unusedSimpArgs false
attribute [local go_sem] max2_int min2_int max_two min_two unary_neg_float

theorem sg_le {a b : Int} : sg a b ≤ 0 ↔ a ≤ b := by
  rcases Int.lt_trichotomy a b with c | c | c
  · rw [sg_lt c]; omega
  · rw [sg_eq c]; omega
  · rw [sg_gt c]; omega
theorem sg_ge {a b : Int} : 0 ≤ sg a b ↔ b ≤ a := by
  rcases Int.lt_trichotomy a b with c | c | c
  · rw [sg_lt c]; omega
  · rw [sg_eq c]; omega
  · rw [sg_gt c]; omega
/-- 'p' is not above 'q'. -/
def notAbove (p q : Int × Int) : Prop := p.2 * q.1 ≤ q.2 * p.1
theorem notAbove_refl (p : Int × Int) : notAbove p p := Int.le_refl _
theorem notAbove_trans {p q r : Int × Int} (hq : 1 ≤ q.1) (hp : 1 ≤ p.1) (hr : 1 ≤ r.1) (h1 : notAbove p q) (h2 : notAbove q r) : notAbove p r := by
  unfold notAbove at *
  have a := Int.mul_le_mul_of_nonneg_right h1 (show (0 : Int) ≤ r.1 by omega)
  have b := Int.mul_le_mul_of_nonneg_right h2 (show (0 : Int) ≤ p.1 by omega)
  have c : p.2 * r.1 * q.1 ≤ r.2 * p.1 * q.1 := by
    have e1 : p.2 * q.1 * r.1 = p.2 * r.1 * q.1 := by rw [Int.mul_right_comm]
    have e2 : q.2 * p.1 * r.1 = q.2 * r.1 * p.1 := by rw [Int.mul_right_comm]
    have e3 : r.2 * q.1 * p.1 = r.2 * p.1 * q.1 := by rw [Int.mul_right_comm]
    omega
  exact Int.le_of_mul_le_mul_right c (by omega)

set_option maxHeartbeats 8000000 in
set_option maxRecDepth 100000 in
theorem Max_calls (A : Option Addr) (c : Nat) (xs : List (Int × Int)) (w : World) (hr : ReadsOf cxv (0, 0) w A xs.length xs) (hne : 0 < xs.length) (hm : xs.length ≤ 1000) (hok : ∀ p ∈ xs, Ok p) :
    Calls Try.prog 14 #[.slice A xs.length c, .func (.func 8) #[] #[]] w fun e w' => ∃ p ∈ xs, e = .returned (.complex .f64 (W p.1) (W p.2)) ∧ (∀ i : Int, 0 ≤ i → i < xs.length → notAbove (rdc xs i) p) ∧ Drawn0 w w' := by
  have hl0 : ¬ (xs.length : Int) < 1 := by omega
  obtain ⟨ad, rfl, hc0⟩ := at_cx hr 0 (by omega) (by omega)
  have hc1 : w.cell? ad = some (.complex .f64 (W (rdc xs 0).1) (W (rdc xs 0).2)) := hc0
  go_enter Try.func14, Try.ntmps14
  go_wp2
  go_loopg [5, 6] xs.length (fun kq v5 v6 w' => (∃ (i : Nat) (p : Int × Int), v5 = .complex .f64 (W p.1) (W p.2) ∧ v6 = .int .i64 (i : Int) ∧ Aside0 (p ∈ xs ∧ kq + i = xs.length + 1 ∧ 1 ≤ i ∧ i ≤ xs.length ∧ ∀ j : Int, 0 ≤ j → j < i → notAbove (rdc xs j) p)) ∧ Drawn0 w w')
  case atStart =>
    refine ⟨⟨1, rdc xs 0, rfl, rfl, ⟨rdc_mem (by omega) (by omega), by omega, by omega, by omega, ?_⟩⟩, by repeat (first | exact Drawn0.refl _ | apply Drawn0.step)⟩
    intro j h0 h1
    obtain rfl : j = 0 := by omega
    exact notAbove_refl _
  case round =>
    obtain ⟨⟨i, p, rfl, rfl, hA⟩, ⟨m1, rfl⟩⟩ := hrel
    obtain ⟨hp, hk, hi1, hi2, hall⟩ := hA.out
    by_cases hlt : i < xs.length
    · have b1 : decide ((i : Int) < (xs.length : Int)) = true := by simp; omega
      obtain ⟨ad2, e2, hci⟩ := at_cx hr (i : Int) (by omega) (by omega)
      cases e2
      have hcz : w.cell? (ad.add i) = some (.complex .f64 (W (rdc xs (i : Int)).1) (W (rdc xs (i : Int)).2)) := hci
      clear hci
      have hq := rdc_mem (xs := xs) (i := (i : Int)) (by omega) (by omega)
      have o1 := hok _ hp
      have o2 := hok _ hq
      have p1 : (0 ≤ (i : Int)) = True := eq_true (by omega)
      have q1 : ((i : Int) < (xs.length : Int)) = True := eq_true (by omega)
      have hw1 : wrap64 ((i : Int) + 1) = ((i + 1 : Nat) : Int) := by unfold wrap64; omega
      generalize hz : rdc xs (i : Int) = z at hcz hq o2
      by_cases cc : sg (z.2 * p.1) (p.2 * z.1) ≤ 0
      · have b2 : decide (0 < sg (z.2 * p.1) (p.2 * z.1)) = false := by simp; omega
        have hnext : ∀ j : Int, 0 ≤ j → j < ((i + 1 : Nat) : Int) → notAbove (rdc xs j) p := by
          intro j h0 h1
          by_cases hj : j = i
          · subst hj; rw [hz]; exact sg_le.1 cc
          · exact hall j h0 (by omega)
        have HN := Aside0.mk hnext
        have HZ := Aside0.mk hz
        have HA := Aside0.mk hall
        clear hnext hz hall hA
        go_wp2_with (go_at_call 8; (with_reducible refine (CompareW_calls _ _ _ _ _ ?h1 ?h2 ?h3 ?h4).mono ?_); (case h1 => have := o2.1; omega); (case h2 => have := o2.2; omega); (case h3 => have := o1.1; omega); (case h4 => have := o1.2; omega); rintro e w1 ⟨rfl, ⟨n1, rfl⟩⟩)
        go_roundg (gk - 1)
        case measure => omega
        case rel => exact ⟨⟨i + 1, p, rfl, rfl, ⟨hp, by omega, by omega, by omega, HN.out⟩⟩, by repeat (first | exact Drawn0.refl _ | apply Drawn0.step)⟩
      · have b2 : decide (0 < sg (z.2 * p.1) (p.2 * z.1)) = true := by simp; omega
        have hpz : notAbove p z := by unfold notAbove; have := mt sg_le.2 cc; omega
        have hnext : ∀ j : Int, 0 ≤ j → j < ((i + 1 : Nat) : Int) → notAbove (rdc xs j) z := by
          intro j h0 h1
          by_cases hj : j = i
          · subst hj; rw [hz]; exact notAbove_refl _
          · exact notAbove_trans o1.1.1 (hok _ (rdc_mem (by omega) (by omega))).1.1 o2.1.1 (hall j h0 (by omega)) hpz
        have HN := Aside0.mk hnext
        have HZ := Aside0.mk hz
        clear hnext hz hall hA
        go_wp2_with (go_at_call 8; (with_reducible refine (CompareW_calls _ _ _ _ _ ?h1 ?h2 ?h3 ?h4).mono ?_); (case h1 => have := o2.1; omega); (case h2 => have := o2.2; omega); (case h3 => have := o1.1; omega); (case h4 => have := o1.2; omega); rintro e w1 ⟨rfl, ⟨n1, rfl⟩⟩)
        go_roundg (gk - 1)
        case measure => omega
        case rel => exact ⟨⟨i + 1, z, rfl, rfl, ⟨hq, by omega, by omega, by omega, HN.out⟩⟩, by repeat (first | exact Drawn0.refl _ | apply Drawn0.step)⟩
    · have b1 : decide ((i : Int) < (xs.length : Int)) = false := by simp; omega
      have HA := Aside0.mk hall
      clear hall hA
      go_wp2
      go_ret
      exact ⟨p, hp, rfl, fun j h0 h1 => HA.out j h0 (by omega), by repeat (first | exact Drawn0.refl _ | apply Drawn0.step)⟩

set_option maxHeartbeats 8000000 in
set_option maxRecDepth 100000 in
theorem Min_calls (A : Option Addr) (c : Nat) (xs : List (Int × Int)) (w : World) (hr : ReadsOf cxv (0, 0) w A xs.length xs) (hne : 0 < xs.length) (hm : xs.length ≤ 1000) (hok : ∀ p ∈ xs, Ok p) :
    Calls Try.prog 15 #[.slice A xs.length c, .func (.func 8) #[] #[]] w fun e w' => ∃ p ∈ xs, e = .returned (.complex .f64 (W p.1) (W p.2)) ∧ (∀ i : Int, 0 ≤ i → i < xs.length → notAbove p (rdc xs i)) ∧ Drawn0 w w' := by
  have hl0 : ¬ (xs.length : Int) < 1 := by omega
  obtain ⟨ad, rfl, hc0⟩ := at_cx hr 0 (by omega) (by omega)
  have hc1 : w.cell? ad = some (.complex .f64 (W (rdc xs 0).1) (W (rdc xs 0).2)) := hc0
  go_enter Try.func15, Try.ntmps15
  go_wp2
  go_loopg [5, 6] xs.length (fun kq v5 v6 w' => (∃ (i : Nat) (p : Int × Int), v5 = .complex .f64 (W p.1) (W p.2) ∧ v6 = .int .i64 (i : Int) ∧ Aside0 (p ∈ xs ∧ kq + i = xs.length + 1 ∧ 1 ≤ i ∧ i ≤ xs.length ∧ ∀ j : Int, 0 ≤ j → j < i → notAbove p (rdc xs j))) ∧ Drawn0 w w')
  case atStart =>
    refine ⟨⟨1, rdc xs 0, rfl, rfl, ⟨rdc_mem (by omega) (by omega), by omega, by omega, by omega, ?_⟩⟩, by repeat (first | exact Drawn0.refl _ | apply Drawn0.step)⟩
    intro j h0 h1
    obtain rfl : j = 0 := by omega
    exact notAbove_refl _
  case round =>
    obtain ⟨⟨i, p, rfl, rfl, hA⟩, ⟨m1, rfl⟩⟩ := hrel
    obtain ⟨hp, hk, hi1, hi2, hall⟩ := hA.out
    by_cases hlt : i < xs.length
    · have b1 : decide ((i : Int) < (xs.length : Int)) = true := by simp; omega
      obtain ⟨ad2, e2, hci⟩ := at_cx hr (i : Int) (by omega) (by omega)
      cases e2
      have hcz : w.cell? (ad.add i) = some (.complex .f64 (W (rdc xs (i : Int)).1) (W (rdc xs (i : Int)).2)) := hci
      clear hci
      have hq := rdc_mem (xs := xs) (i := (i : Int)) (by omega) (by omega)
      have o1 := hok _ hp
      have o2 := hok _ hq
      have p1 : (0 ≤ (i : Int)) = True := eq_true (by omega)
      have q1 : ((i : Int) < (xs.length : Int)) = True := eq_true (by omega)
      have hw1 : wrap64 ((i : Int) + 1) = ((i + 1 : Nat) : Int) := by unfold wrap64; omega
      generalize hz : rdc xs (i : Int) = z at hcz hq o2
      by_cases cc : 0 ≤ sg (z.2 * p.1) (p.2 * z.1)
      · have b2 : decide (sg (z.2 * p.1) (p.2 * z.1) < 0) = false := by simp; omega
        have hnext : ∀ j : Int, 0 ≤ j → j < ((i + 1 : Nat) : Int) → notAbove p (rdc xs j) := by
          intro j h0 h1
          by_cases hj : j = i
          · subst hj; rw [hz]; exact sg_ge.1 cc
          · exact hall j h0 (by omega)
        have HN := Aside0.mk hnext
        have HZ := Aside0.mk hz
        have HA := Aside0.mk hall
        clear hnext hz hall hA
        go_wp2_with (go_at_call 8; (with_reducible refine (CompareW_calls _ _ _ _ _ ?h1 ?h2 ?h3 ?h4).mono ?_); (case h1 => have := o2.1; omega); (case h2 => have := o2.2; omega); (case h3 => have := o1.1; omega); (case h4 => have := o1.2; omega); rintro e w1 ⟨rfl, ⟨n1, rfl⟩⟩)
        go_roundg (gk - 1)
        case measure => omega
        case rel => exact ⟨⟨i + 1, p, rfl, rfl, ⟨hp, by omega, by omega, by omega, HN.out⟩⟩, by repeat (first | exact Drawn0.refl _ | apply Drawn0.step)⟩
      · have b2 : decide (sg (z.2 * p.1) (p.2 * z.1) < 0) = true := by simp; omega
        have hpz : notAbove z p := by unfold notAbove; have := mt sg_ge.2 cc; omega
        have hnext : ∀ j : Int, 0 ≤ j → j < ((i + 1 : Nat) : Int) → notAbove z (rdc xs j) := by
          intro j h0 h1
          by_cases hj : j = i
          · subst hj; rw [hz]; exact notAbove_refl _
          · exact notAbove_trans o1.1.1 o2.1.1 (hok _ (rdc_mem (by omega) (by omega))).1.1 hpz (hall j h0 (by omega))
        have HN := Aside0.mk hnext
        have HZ := Aside0.mk hz
        clear hnext hz hall hA
        go_wp2_with (go_at_call 8; (with_reducible refine (CompareW_calls _ _ _ _ _ ?h1 ?h2 ?h3 ?h4).mono ?_); (case h1 => have := o2.1; omega); (case h2 => have := o2.2; omega); (case h3 => have := o1.1; omega); (case h4 => have := o1.2; omega); rintro e w1 ⟨rfl, ⟨n1, rfl⟩⟩)
        go_roundg (gk - 1)
        case measure => omega
        case rel => exact ⟨⟨i + 1, z, rfl, rfl, ⟨hq, by omega, by omega, by omega, HN.out⟩⟩, by repeat (first | exact Drawn0.refl _ | apply Drawn0.step)⟩
    · have b1 : decide ((i : Int) < (xs.length : Int)) = false := by simp; omega
      have HA := Aside0.mk hall
      clear hall hA
      go_wp2
      go_ret
      exact ⟨p, hp, rfl, fun j h0 h1 => HA.out j h0 (by omega), by repeat (first | exact Drawn0.refl _ | apply Drawn0.step)⟩
end Go.Proofs.Ytkldfjlbgmppfac.Fl
