import Derived.Test.YtkldfjlbgmppfacBase
import Derived.Test.YtkldfjlbgmppfacFl
import Derived.WalkLawsBesides
namespace Go.Proofs.Ytkldfjlbgmppfac.Fl
open Go.RowKit Go.Proofs.YtkldfjlbgmppfacW.PrintWords Go.Proofs.YtkldfjlbgmppfacW.PrintLast Go.Proofs.YtkldfjlbgmppfacW.PrintMore
set_option linter.unusedVariables false
set_option linter.unusedSimpArgs false
def nan (x : Nat) : Bool := Go.FloatKind.f64.format.order x x != some .eq
set_option maxHeartbeats 8000000 in
set_option maxRecDepth 100000 in
theorem isNaN_calls (x : Nat) (w : World) : Calls Try.prog 20 #[.float .f64 x] w fun e w' => e = .returned (.bool (nan x)) ∧ Drawn0 w w' := by
  go_enter Try.func20, Try.ntmps20
  go_wp2
  go_ret
  exact ⟨rfl, by repeat (first | exact Drawn0.refl _ | apply Drawn0.step)⟩

/-- What cmp.Compare says of two words. -/
def cmpOf (x y : Nat) : Int :=
  if nan x = true then (if nan y = true then 0 else -1) else if nan y = true then 1 else
  if (Go.FloatKind.f64.format.order x y == some .lt) = true then -1 else if (Go.FloatKind.f64.format.order x y == some .gt) = true then 1 else 0

set_option maxHeartbeats 8000000 in
set_option maxRecDepth 100000 in
theorem cmp_calls (x y : Nat) (w : World) : Calls Try.prog 16 #[.float .f64 x, .float .f64 y] w fun e w' => e = .returned (.int .i64 (cmpOf x y)) ∧ Drawn0 w w' := by
  cases c1 : nan x <;> cases c2 : nan y
  all_goals cases c3 : (Go.FloatKind.f64.format.order x y == some .lt) <;> cases c4 : (Go.FloatKind.f64.format.order x y == some .gt)
  all_goals
    go_enter Try.func16, Try.ntmps16
    go_wp2_with (go_at_call 20; (with_reducible refine (isNaN_calls _ _).mono ?_); rintro e w1 ⟨rfl, ⟨n1, rfl⟩⟩; simp only [c1, c2])
    all_goals try (go_ret)
    all_goals exact ⟨by simp [cmpOf, c1, c2, c3, c4], by repeat (first | exact Drawn0.refl _ | apply Drawn0.step)⟩
theorem unary_neg_float (k : FloatKind) (b : Nat) : Go.Op.unary .neg (.float k b) = pure (.float k (Go.Op.negFloat k b)) := rfl
attribute [local go_sem] unary_neg_float
set_option maxHeartbeats 8000000 in
set_option maxRecDepth 100000 in
theorem turned_calls (x y : Nat) (w : World) : Calls Try.prog 17 #[.complex .f64 x y] w fun e w' => e = .returned (.complex .f64 x (Go.Op.negFloat .f64 y)) ∧ Drawn0 w w' := by
  go_enter Try.func17, Try.ntmps17
  go_wp2
  go_ret
  exact ⟨rfl, by repeat (first | exact Drawn0.refl _ | apply Drawn0.step)⟩

/-- A whole number's word is no NaN. -/
theorem nan_is {x : Nat} {n : Int} (h : Is x n) : nan x = false := by
  unfold nan; rw [is_order h h]; simp
theorem cmp_is {x y : Nat} {a b : Int} (h1 : Is x a) (h2 : Is y b) : cmpOf x y = if a < b then -1 else if b < a then 1 else 0 := by
  unfold cmpOf
  rw [nan_is h1, nan_is h2, is_order h1 h2]
  have e : compare a b = if a < b then .lt else if a = b then .eq else .gt := rfl
  rw [e]
  rcases Int.lt_trichotomy a b with c | c | c
  · simp [c]
  · subst c; simp
  · simp [show ¬ a < b by omega, show ¬ a = b by omega, c]
theorem is_zero : Is 0 0 := by
  have h := is_nearest false 0 0 0 (by unfold Ieee.signed; simp) (by decide)
  rw [nearest_zero] at h
  exact h

/-- Below, equal, above. -/
def sg (a b : Int) : Int := if a < b then -1 else if b < a then 1 else 0

theorem mul_small {a b : Int} {m n : Nat} (h1 : a.natAbs ≤ m) (h2 : b.natAbs ≤ n) : (a * b).natAbs ≤ m * n := by
  rw [Int.natAbs_mul]; exact Nat.mul_le_mul h1 h2

theorem mul_conj {x1 x2 y1 y2 : Nat} {a1 a2 b1 b2 : Int} (h1 : Is x1 a1) (h2 : Is x2 a2) (h3 : Is y1 b1) (h4 : Is y2 b2)
    (k1 : a1.natAbs ≤ 2 ^ 25) (k2 : a2.natAbs ≤ 2 ^ 25) (k3 : b1.natAbs ≤ 2 ^ 25) (k4 : b2.natAbs ≤ 2 ^ 25) :
    ∃ re im, cMulBits y1 (Go.Op.negFloat .f64 y2) x1 x2 = some (re, im) ∧ Is im (b1 * a2 - b2 * a1) := by
  have h5 := is_neg h4
  have m1 := mul_small k3 k1
  have m2 : (-b2 * a2).natAbs ≤ 2 ^ 25 * 2 ^ 25 := mul_small (by omega) k2
  have m3 := mul_small k3 k2
  have m4 : (-b2 * a1).natAbs ≤ 2 ^ 25 * 2 ^ 25 := mul_small (by omega) k1
  obtain ⟨p1, e1, q1⟩ := is_mul h3 h1 (by omega)
  obtain ⟨p2, e2, q2⟩ := is_mul h5 h2 (by omega)
  obtain ⟨p3, e3, q3⟩ := is_sub q1 q2 (by omega)
  obtain ⟨p4, e4, q4⟩ := is_mul h3 h2 (by omega)
  obtain ⟨p5, e5, q5⟩ := is_mul h5 h1 (by omega)
  obtain ⟨p6, e6, q6⟩ := is_add q4 q5 (by omega)
  refine ⟨p3, p6, ?_, ?_⟩
  · simp only [cMulBits, e1, e2, e3, e4, e5, e6, Option.bind_some]
  · rw [Int.neg_mul, ← Int.sub_eq_add_neg] at q6; exact q6

set_option maxHeartbeats 8000000 in
set_option maxRecDepth 100000 in
theorem Compare_calls (x1 x2 y1 y2 : Nat) (a1 a2 b1 b2 : Int) (w : World) (h1 : Is x1 a1) (h2 : Is x2 a2) (h3 : Is y1 b1) (h4 : Is y2 b2)
    (k1 : a1.natAbs ≤ 2 ^ 25) (k2 : a2.natAbs ≤ 2 ^ 25) (k3 : b1.natAbs ≤ 2 ^ 25) (k4 : b2.natAbs ≤ 2 ^ 25) :
    Calls Try.prog 8 #[.complex .f64 x1 x2, .complex .f64 y1 y2] w fun e w' => e = .returned (.int .i64 (sg (a2 * b1) (b2 * a1))) ∧ Drawn0 w w' := by
  obtain ⟨re, im, hm, hi⟩ := mul_conj h1 h2 h3 h4 k1 k2 k3 k4
  have hmul := fun w => run_complex_mul (P := Try.prog) w 25 y1 (Go.Op.negFloat .f64 y2) x1 x2 re im hm
  have hs : sg (a2 * b1) (b2 * a1) = cmpOf im 0 := by
    rw [cmp_is hi is_zero]; unfold sg
    rw [Int.mul_comm b1 a2]
    generalize a2 * b1 = u; generalize b2 * a1 = v
    split <;> split <;> (try split) <;> first | omega | rfl | (split <;> omega)
  rw [hs]
  go_enter Try.func8, Try.ntmps8
  go_wp2_with (first | (go_at_call 17; (with_reducible refine (turned_calls _ _ _).mono ?_); rintro e w1 ⟨rfl, ⟨n1, rfl⟩⟩) | (go_at_call 16; (with_reducible refine (cmp_calls _ _ _).mono ?_); rintro e w1 ⟨rfl, ⟨n1, rfl⟩⟩))
  go_ret
  exact ⟨rfl, by repeat (first | exact Drawn0.refl _ | apply Drawn0.step)⟩

/-- A number's word. -/
def W (n : Int) : Nat := Go.floatOfInt .f64 n
theorem W_is (n : Int) (h : n.natAbs < 2 ^ 53) : Is (W n) n := is_ofInt n h
def cut (n : Int) : Int := if 16777216 < (if n < 0 then 0 else n) then 16777216 else if n < 0 then 0 else n

attribute [local go_sem] max2_int min2_int max_two min_two
set_option maxHeartbeats 8000000 in
set_option maxRecDepth 100000 in
theorem part_calls (n : Int) (w : World) : Calls Try.prog 19 #[.int .i64 n] w fun e w' => e = .returned (.float .f64 (W (cut n))) ∧ Drawn0 w w' := by
  go_enter Try.func19, Try.ntmps19
  go_wp2
  all_goals go_ret
  all_goals refine ⟨congrArg (fun q => Ending.returned (Value.float .f64 (floatOfInt .f64 q))) (?_ : _ = cut n), by repeat (first | exact Drawn0.refl _ | apply Drawn0.step)⟩
  all_goals (unfold cut; (repeat' split) <;> omega)

theorem order_end {x : Nat} {n : Int} (h : Is x n) (h1 : n < 2 ^ 53) : Go.FloatKind.f64.format.order x 4845873199050653696 = some .lt := by
  obtain ⟨s, m, p, e1, e2⟩ := h
  have e3 : Ieee.double.read 4845873199050653696 = .number false (2 ^ 52) 1 := rfl
  show (Ieee.double.read x).order (Ieee.double.read 4845873199050653696) = _
  rw [e1, e3]
  simp only [Ieee.Datum.order]
  congr 1
  rw [show (-(p : Int) - min (-(p : Int)) 1).toNat = 0 by omega, show ((1 : Int) - min (-(p : Int)) 1).toNat = p + 1 by omega, e2, signed_up false]
  have e4 : Ieee.signed false (2 ^ 52) 0 * ((2 ^ (p + 1) : Nat) : Int) = 2 ^ 53 * ((2 ^ p : Nat) : Int) := by
    rw [Nat.pow_succ]; unfold Ieee.signed; simp; omega
  rw [e4]
  have hp : (0 : Int) < ((2 ^ p : Nat) : Int) := by have := Nat.two_pow_pos p; omega
  have := Int.mul_lt_mul_of_pos_right h1 hp
  show (if _ then _ else _) = _
  rw [if_pos this]

set_option maxHeartbeats 8000000 in
set_option maxRecDepth 100000 in
theorem Share_calls (a b : Int) (w : World) : Calls Try.prog 12 #[.int .i64 a, .int .i64 b] w fun e w' => e = .returned (.complex .f64 (W (cut a)) (W (cut b))) ∧ Drawn0 w w' := by
  go_enter Try.func12, Try.ntmps12
  go_wp2_with (go_at_call 19; (with_reducible refine (part_calls _ _).mono ?_); rintro e w1 ⟨rfl, ⟨n1, rfl⟩⟩)
  all_goals try go_ret
  exact ⟨rfl, by repeat (first | exact Drawn0.refl _ | apply Drawn0.step)⟩

set_option maxHeartbeats 8000000 in
set_option maxRecDepth 100000 in
theorem whole_calls (x : Nat) (n : Int) (w : World) (h : Is x n) (h0 : 0 ≤ n) (h1 : n < 2 ^ 53) : Calls Try.prog 18 #[.float .f64 x] w fun e w' => e = .returned (.int .i64 n) ∧ Drawn0 w w' := by
  have o1 := order_end h h1
  have o2 := is_order h is_zero
  have o3 := fun w => run_convert_float_int (P := Try.prog) w 34 3 .f64 .i64 x n rfl rfl (is_toInt h (by omega))
  have e : compare n 0 = if n < 0 then .lt else if n = 0 then .eq else .gt := rfl
  by_cases c : 0 < n
  · rw [e, if_neg (by omega), if_neg (by omega)] at o2
    go_enter Try.func18, Try.ntmps18
    go_wp2
    go_ret
    exact ⟨rfl, by repeat (first | exact Drawn0.refl _ | apply Drawn0.step)⟩
  · rw [e, if_neg (by omega), if_pos (by omega)] at o2
    obtain rfl : n = 0 := by omega
    go_enter Try.func18, Try.ntmps18
    go_wp2
    go_ret
    exact ⟨rfl, by repeat (first | exact Drawn0.refl _ | apply Drawn0.step)⟩

set_option maxHeartbeats 8000000 in
set_option maxRecDepth 100000 in
theorem Weight_calls (x y : Nat) (n : Int) (w : World) (h : Is x n) (h0 : 0 ≤ n) (h1 : n < 2 ^ 53) : Calls Try.prog 9 #[.complex .f64 x y] w fun e w' => e = .returned (.int .i64 n) ∧ Drawn0 w w' := by
  go_enter Try.func9, Try.ntmps9
  go_wp2_with (go_at_call 18; (with_reducible refine (whole_calls _ n _ h h0 h1).mono ?_); rintro e w1 ⟨rfl, ⟨n1, rfl⟩⟩)
  go_ret
  exact ⟨rfl, by repeat (first | exact Drawn0.refl _ | apply Drawn0.step)⟩

set_option maxHeartbeats 8000000 in
set_option maxRecDepth 100000 in
theorem Cost_calls (x y : Nat) (n : Int) (w : World) (h : Is y n) (h0 : 0 ≤ n) (h1 : n < 2 ^ 53) : Calls Try.prog 10 #[.complex .f64 x y] w fun e w' => e = .returned (.int .i64 n) ∧ Drawn0 w w' := by
  go_enter Try.func10, Try.ntmps10
  go_wp2_with (go_at_call 18; (with_reducible refine (whole_calls _ n _ h h0 h1).mono ?_); rintro e w1 ⟨rfl, ⟨n1, rfl⟩⟩)
  go_ret
  exact ⟨rfl, by repeat (first | exact Drawn0.refl _ | apply Drawn0.step)⟩

set_option maxHeartbeats 8000000 in
set_option maxRecDepth 100000 in
theorem Cut_calls (n : Int) (w : World) : Calls Try.prog 13 #[.int .i64 n] w fun e w' => e = .returned (.int .i64 (cut n)) ∧ Drawn0 w w' := by
  go_enter Try.func13, Try.ntmps13
  go_wp2
  all_goals go_ret
  all_goals refine ⟨congrArg (fun q => Ending.returned (Value.int .i64 q)) (?_ : _ = cut n), by repeat (first | exact Drawn0.refl _ | apply Drawn0.step)⟩
  all_goals (unfold cut; (repeat' split) <;> omega)

theorem sg_lt {a b : Int} (h : a < b) : sg a b = -1 := by unfold sg; rw [if_pos h]
theorem sg_gt {a b : Int} (h : b < a) : sg a b = 1 := by unfold sg; rw [if_neg (by omega), if_pos h]
theorem sg_eq {a b : Int} (h : a = b) : sg a b = 0 := by unfold sg; rw [if_neg (by omega), if_neg (by omega)]
theorem wrap_small (x : Int) (h : x.natAbs < 2 ^ 62) : wrap64 x = x := by unfold wrap64; omega


end Go.Proofs.Ytkldfjlbgmppfac.Fl
