/- The engine of the yard and what it leans on, part 30. -/
import Derived.Test.YtbpoapfkeinjnaaGreatDoorJ29
import Derived.WalkLawsBesides
namespace Go.Proofs.YtbpoapfkeinjnaaGreatDoor.Fl
open Go.RowKit Go.Proofs.YtbpoapfkeinjnaaGreatDoorW.PrintWords Go.Proofs.YtbpoapfkeinjnaaGreatDoorW.PrintLast Go.Proofs.YtbpoapfkeinjnaaGreatDoorW.PrintMore
set_option linter.unusedVariables false
set_option linter.unusedSimpArgs false
def nan (x : Nat) : Bool := Go.FloatKind.f64.format.order x x != some .eq
set_option maxHeartbeats 8000000 in
set_option maxRecDepth 100000 in
theorem isNaN_calls (x : Nat) (w : World) : Calls Tryz.prog 66 #[.float .f64 x] w fun e w' => e = .returned (.bool (nan x)) ∧ Drawn0 w w' := by
  go_enter Tryz.func66, Tryz.ntmps66
  go_wp2
  go_ret
  exact ⟨rfl, by repeat (first | exact Drawn0.refl _ | apply Drawn0.step)⟩

def cmpOf (x y : Nat) : Int :=
  if nan x = true then (if nan y = true then 0 else -1) else if nan y = true then 1 else
  if (Go.FloatKind.f64.format.order x y == some .lt) = true then -1 else if (Go.FloatKind.f64.format.order x y == some .gt) = true then 1 else 0

set_option maxHeartbeats 8000000 in
set_option maxRecDepth 100000 in
theorem cmp_calls (x y : Nat) (w : World) : Calls Tryz.prog 25 #[.float .f64 x, .float .f64 y] w fun e w' => e = .returned (.int .i64 (cmpOf x y)) ∧ Drawn0 w w' := by
  cases c1 : nan x <;> cases c2 : nan y
  all_goals cases c3 : (Go.FloatKind.f64.format.order x y == some .lt) <;> cases c4 : (Go.FloatKind.f64.format.order x y == some .gt)
  all_goals
    go_enter Tryz.func25, Tryz.ntmps25
    go_wp2_with (go_at_call 66; (with_reducible refine (isNaN_calls _ _).mono ?_); rintro e w1 ⟨rfl, ⟨n1, rfl⟩⟩; simp only [c1, c2])
    all_goals try (go_ret)
    all_goals exact ⟨by simp [cmpOf, c1, c2, c3, c4], by repeat (first | exact Drawn0.refl _ | apply Drawn0.step)⟩
theorem unary_neg_float (k : FloatKind) (b : Nat) : Go.Op.unary .neg (.float k b) = pure (.float k (Go.Op.negFloat k b)) := rfl
attribute [local go_sem] unary_neg_float
set_option maxHeartbeats 8000000 in
set_option maxRecDepth 100000 in
theorem turned_calls (x y : Nat) (w : World) : Calls Tryz.prog 26 #[.complex .f64 x y] w fun e w' => e = .returned (.complex .f64 x (Go.Op.negFloat .f64 y)) ∧ Drawn0 w w' := by
  go_enter Tryz.func26, Tryz.ntmps26
  go_wp2
  go_ret
  exact ⟨rfl, by repeat (first | exact Drawn0.refl _ | apply Drawn0.step)⟩

theorem nan_is {x : Nat} {n : Int} (h : Is x n) : nan x = false := by
  unfold nan; rw [is_order h h]; simp
theorem cmp_is {x y : Nat} {a b : Int} (h1 : Is x a) (h2 : Is y b) : cmpOf x y = if a < b then -1 else if b < a then 1 else 0 := by
  unfold cmpOf
  rw [nan_is h1, nan_is h2, is_order h1 h2]
  have e : compare a b = if a < b then .lt else if a = b then .eq else .gt := rfl
  rw [e]
  rcases Int.lt_trichotomy a b with c | c | c
  · simp [c]
  · subst c; simp
  · simp [show ¬ a < b by omega, show ¬ a = b by omega, c]
theorem is_zero : Is 0 0 := by
  have h := is_nearest false 0 0 0 (by unfold Ieee.signed; simp) (by decide)
  rw [nearest_zero] at h
  exact h

def sg (a b : Int) : Int := if a < b then -1 else if b < a then 1 else 0

theorem mul_small {a b : Int} {m n : Nat} (h1 : a.natAbs ≤ m) (h2 : b.natAbs ≤ n) : (a * b).natAbs ≤ m * n := by
  rw [Int.natAbs_mul]; exact Nat.mul_le_mul h1 h2

theorem mul_conj {x1 x2 y1 y2 : Nat} {a1 a2 b1 b2 : Int} (h1 : Is x1 a1) (h2 : Is x2 a2) (h3 : Is y1 b1) (h4 : Is y2 b2)
    (k1 : a1.natAbs ≤ 2 ^ 25) (k2 : a2.natAbs ≤ 2 ^ 25) (k3 : b1.natAbs ≤ 2 ^ 25) (k4 : b2.natAbs ≤ 2 ^ 25) :
    ∃ re im, cMulBits y1 (Go.Op.negFloat .f64 y2) x1 x2 = some (re, im) ∧ Is im (b1 * a2 - b2 * a1) := by
  have h5 := is_neg h4
  have m1 := mul_small k3 k1
  have m2 : (-b2 * a2).natAbs ≤ 2 ^ 25 * 2 ^ 25 := mul_small (by omega) k2
  have m3 := mul_small k3 k2
  have m4 : (-b2 * a1).natAbs ≤ 2 ^ 25 * 2 ^ 25 := mul_small (by omega) k1
  obtain ⟨p1, e1, q1⟩ := is_mul h3 h1 (by omega)
  obtain ⟨p2, e2, q2⟩ := is_mul h5 h2 (by omega)
  obtain ⟨p3, e3, q3⟩ := is_sub q1 q2 (by omega)
  obtain ⟨p4, e4, q4⟩ := is_mul h3 h2 (by omega)
  obtain ⟨p5, e5, q5⟩ := is_mul h5 h1 (by omega)
  obtain ⟨p6, e6, q6⟩ := is_add q4 q5 (by omega)
  refine ⟨p3, p6, ?_, ?_⟩
  · simp only [cMulBits, e1, e2, e3, e4, e5, e6, Option.bind_some]
  · rw [Int.neg_mul, ← Int.sub_eq_add_neg] at q6; exact q6

set_option maxHeartbeats 8000000 in
set_option maxRecDepth 100000 in
theorem Compare_calls (x1 x2 y1 y2 : Nat) (a1 a2 b1 b2 : Int) (w : World) (h1 : Is x1 a1) (h2 : Is x2 a2) (h3 : Is y1 b1) (h4 : Is y2 b2)
    (k1 : a1.natAbs ≤ 2 ^ 25) (k2 : a2.natAbs ≤ 2 ^ 25) (k3 : b1.natAbs ≤ 2 ^ 25) (k4 : b2.natAbs ≤ 2 ^ 25) :
    Calls Tryz.prog 10 #[.complex .f64 x1 x2, .complex .f64 y1 y2] w fun e w' => e = .returned (.int .i64 (sg (a2 * b1) (b2 * a1))) ∧ Drawn0 w w' := by
  obtain ⟨re, im, hm, hi⟩ := mul_conj h1 h2 h3 h4 k1 k2 k3 k4
  have hmul := fun w => run_complex_mul (P := Tryz.prog) w 40 y1 (Go.Op.negFloat .f64 y2) x1 x2 re im hm
  have hs : sg (a2 * b1) (b2 * a1) = cmpOf im 0 := by
    rw [cmp_is hi is_zero]; unfold sg
    rw [Int.mul_comm b1 a2]
    generalize a2 * b1 = u; generalize b2 * a1 = v
    split <;> split <;> (try split) <;> first | omega | rfl | (split <;> omega)
  rw [hs]
  go_enter Tryz.func10, Tryz.ntmps10
  go_wp2_with (first | (go_at_call 26; (with_reducible refine (turned_calls _ _ _).mono ?_); rintro e w1 ⟨rfl, ⟨n1, rfl⟩⟩) | (go_at_call 25; (with_reducible refine (cmp_calls _ _ _).mono ?_); rintro e w1 ⟨rfl, ⟨n1, rfl⟩⟩))
  go_ret
  exact ⟨rfl, by repeat (first | exact Drawn0.refl _ | apply Drawn0.step)⟩

def W (n : Int) : Nat := Go.floatOfInt .f64 n
theorem W_is (n : Int) (h : n.natAbs < 2 ^ 53) : Is (W n) n := is_ofInt n h
def cut (n : Int) : Int := if 16777216 < (if n < 0 then 0 else n) then 16777216 else if n < 0 then 0 else n

attribute [local go_sem] max2_int min2_int max_two min_two
set_option maxHeartbeats 8000000 in
set_option maxRecDepth 100000 in
theorem part_calls (n : Int) (w : World) : Calls Tryz.prog 24 #[.int .i64 n] w fun e w' => e = .returned (.float .f64 (W (cut n))) ∧ Drawn0 w w' := by
  go_enter Tryz.func24, Tryz.ntmps24
  go_wp2
  all_goals go_ret
  all_goals refine ⟨congrArg (fun q => Ending.returned (Value.float .f64 (floatOfInt .f64 q))) (?_ : _ = cut n), by repeat (first | exact Drawn0.refl _ | apply Drawn0.step)⟩
  all_goals (unfold cut; (repeat' split) <;> omega)

theorem order_end {x : Nat} {n : Int} (h : Is x n) (h1 : n < 2 ^ 53) : Go.FloatKind.f64.format.order x 4845873199050653696 = some .lt := by
  obtain ⟨s, m, p, e1, e2⟩ := h
  have e3 : Ieee.double.read 4845873199050653696 = .number false (2 ^ 52) 1 := rfl
  show (Ieee.double.read x).order (Ieee.double.read 4845873199050653696) = _
  rw [e1, e3]
  simp only [Ieee.Datum.order]
  congr 1
  rw [show (-(p : Int) - min (-(p : Int)) 1).toNat = 0 by omega, show ((1 : Int) - min (-(p : Int)) 1).toNat = p + 1 by omega, e2, signed_up false]
  have e4 : Ieee.signed false (2 ^ 52) 0 * ((2 ^ (p + 1) : Nat) : Int) = 2 ^ 53 * ((2 ^ p : Nat) : Int) := by
    rw [Nat.pow_succ]; unfold Ieee.signed; simp; omega
  rw [e4]
  have hp : (0 : Int) < ((2 ^ p : Nat) : Int) := by have := Nat.two_pow_pos p; omega
  have := Int.mul_lt_mul_of_pos_right h1 hp
  show (if _ then _ else _) = _
  rw [if_pos this]

set_option maxHeartbeats 8000000 in
set_option maxRecDepth 100000 in
theorem Share_calls (a b : Int) (w : World) : Calls Tryz.prog 9 #[.int .i64 a, .int .i64 b] w fun e w' => e = .returned (.complex .f64 (W (cut a)) (W (cut b))) ∧ Drawn0 w w' := by
  go_enter Tryz.func9, Tryz.ntmps9
  go_wp2_with (go_at_call 24; (with_reducible refine (part_calls _ _).mono ?_); rintro e w1 ⟨rfl, ⟨n1, rfl⟩⟩)
  all_goals try go_ret
  exact ⟨rfl, by repeat (first | exact Drawn0.refl _ | apply Drawn0.step)⟩





theorem sg_lt {a b : Int} (h : a < b) : sg a b = -1 := by unfold sg; rw [if_pos h]
theorem sg_gt {a b : Int} (h : b < a) : sg a b = 1 := by unfold sg; rw [if_neg (by omega), if_pos h]
theorem sg_eq {a b : Int} (h : a = b) : sg a b = 0 := by unfold sg; rw [if_neg (by omega), if_neg (by omega)]
theorem wrap_small (x : Int) (h : x.natAbs < 2 ^ 62) : wrap64 x = x := by unfold wrap64; omega


theorem cut_range (n : Int) : 0 ≤ cut n ∧ cut n ≤ 16777216 := by unfold cut; (repeat' split) <;> omega
theorem cut_id {n : Int} (h : 0 ≤ n) (h1 : n ≤ 16777216) : cut n = n := by unfold cut; (repeat' split) <;> omega
theorem ShareW_calls (a b : Int) (w : World) (h1 : 0 ≤ a ∧ a ≤ 16777216) (h2 : 0 ≤ b ∧ b ≤ 16777216) : Calls Tryz.prog 9 #[.int .i64 a, .int .i64 b] w fun e w' => e = .returned (.complex .f64 (W a) (W b)) ∧ Drawn0 w w' := by
  have := Share_calls a b w
  rw [cut_id h1.1 h1.2, cut_id h2.1 h2.2] at this
  exact this
theorem CompareW_calls (a1 a2 b1 b2 : Int) (w : World) (h1 : a1.natAbs ≤ 2 ^ 25) (h2 : a2.natAbs ≤ 2 ^ 25) (h3 : b1.natAbs ≤ 2 ^ 25) (h4 : b2.natAbs ≤ 2 ^ 25) :
    Calls Tryz.prog 10 #[.complex .f64 (W a1) (W a2), .complex .f64 (W b1) (W b2)] w fun e w' => e = .returned (.int .i64 (sg (a2 * b1) (b2 * a1))) ∧ Drawn0 w w' :=
  Compare_calls _ _ _ _ a1 a2 b1 b2 w (W_is _ (by omega)) (W_is _ (by omega)) (W_is _ (by omega)) (W_is _ (by omega)) h1 h2 h3 h4
theorem order_eq {x y : Nat} {a : Int} (h1 : Is x a) (h2 : Is y a) : Go.FloatKind.f64.format.order x y = some .eq := by
  rw [is_order h1 h2]; simp

end Go.Proofs.YtbpoapfkeinjnaaGreatDoor.Fl
namespace Go.Proofs.YtbpoapfkeinjnaaGreatDoor.Ld
open Go.RowKit Go.Proofs.YtbpoapfkeinjnaaGreatDoorW.PrintWords Go.Proofs.YtbpoapfkeinjnaaGreatDoorW.PrintLast Go.Proofs.YtbpoapfkeinjnaaGreatDoorW.PrintMore
set_option linter.unusedVariables false
set_option linter.unusedSimpArgs false
theorem pair_law {q cost wa wb ga gb : Int} (hq : 1 ≤ q ∧ q ≤ 60) (hc : 1 ≤ cost ∧ cost ≤ 60) (h1 : 1 ≤ wa ∧ wa ≤ 20) (h2 : 1 ≤ wb ∧ wb ≤ 20) (h3 : 0 ≤ ga ∧ ga ≤ 12060) (h4 : 0 ≤ gb ∧ gb ≤ 12060) (h : ga * wb ≤ (gb + (2 * q + cost) * wb) * wa) :
    ∃ P s : Int, (2 * q + cost) * wb = P ∧ (0 ≤ P ∧ P ≤ 3600) ∧ s ≤ 0 ∧ Aside0 (∀ w : World, Calls Tryz.prog 9 #[.int .i64 wb, .int .i64 (gb + P)] w fun e w' => e = .returned (.complex .f64 (Fl.W wb) (Fl.W (gb + P))) ∧ Drawn0 w w') ∧
      Aside0 (∀ w : World, Calls Tryz.prog 9 #[.int .i64 wa, .int .i64 ga] w fun e w' => e = .returned (.complex .f64 (Fl.W wa) (Fl.W ga)) ∧ Drawn0 w w') ∧
      Aside0 (∀ w : World, Calls Tryz.prog 10 #[.complex .f64 (Fl.W wa) (Fl.W ga), .complex .f64 (Fl.W wb) (Fl.W (gb + P))] w fun e w' => e = .returned (.int .i64 s) ∧ Drawn0 w w') := by
  have e1 := Int.mul_nonneg (show 0 ≤ 2 * q + cost by omega) (show 0 ≤ wb by omega)
  have e2 := Int.mul_le_mul (show 2 * q + cost ≤ 180 by omega) (show wb ≤ 20 by omega) (by omega) (by omega)
  obtain ⟨P, hP⟩ : ∃ P, (2 * q + cost) * wb = P := ⟨_, rfl⟩
  rw [hP] at h e1 e2
  have n25 : (2 : Nat) ^ 25 = 33554432 := by decide
  refine ⟨P, Fl.sg (ga * wb) ((gb + P) * wa), hP, ⟨e1, by omega⟩, ?_, ⟨fun w => Fl.ShareW_calls wb (gb + P) w (by omega) (by omega)⟩, ⟨fun w => Fl.ShareW_calls wa ga w (by omega) (by omega)⟩, ⟨fun w => Fl.CompareW_calls wa ga wb (gb + P) w (by omega) (by omega) (by omega) (by omega)⟩⟩
  unfold Fl.sg
  by_cases c1 : ga * wb < (gb + P) * wa
  · rw [if_pos c1]; decide
  · rw [if_neg c1, if_neg (by omega)]; decide
end Go.Proofs.YtbpoapfkeinjnaaGreatDoor.Ld
