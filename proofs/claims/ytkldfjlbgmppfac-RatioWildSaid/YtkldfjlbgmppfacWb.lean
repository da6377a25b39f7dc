import Derived.Test.YtkldfjlbgmppfacWa
namespace Go.Proofs.Ytkldfjlbgmppfac.Fl
open Go.RowKit Go.Proofs.YtkldfjlbgmppfacW.PrintWords Go.Proofs.YtkldfjlbgmppfacW.PrintLast Go.Proofs.YtkldfjlbgmppfacW.PrintMore
open Ieee
set_option linter.unusedVariables false
set_option linter.unusedSimpArgs false

theorem compare_scale (a b : Int) (k : Nat) (hk : 0 < k) : compare (a * (k : Int)) (b * (k : Int)) = compare a b := by
  have hk' : (0 : Int) < (k : Int) := by omega
  show compareOfLessAndEq _ _ = compareOfLessAndEq _ _
  unfold compareOfLessAndEq
  rcases Int.lt_trichotomy a b with c | c | c
  · rw [if_pos c, if_pos (Int.mul_lt_mul_of_pos_right c hk')]
  · subst c; rw [if_neg (Int.lt_irrefl _), if_neg (Int.lt_irrefl _), if_pos rfl, if_pos rfl]
  · have d := Int.mul_lt_mul_of_pos_right c hk'
    rw [if_neg (by omega), if_neg (by omega), if_neg (by omega), if_neg (by omega)]

/-- The order, told over any place below both. -/
theorem order_at (s t : Bool) (m n : Nat) (i j b : Int) (hi : b ≤ i) (hj : b ≤ j) :
    (Datum.number s m i).order (.number t n j) = some (compare (signed s m (i - b).toNat) (signed t n (j - b).toNat)) := by
  simp only [Datum.order]
  congr 1
  have e1 : (i - b).toNat = (i - min i j).toNat + (min i j - b).toNat := by omega
  have e2 : (j - b).toNat = (j - min i j).toNat + (min i j - b).toNat := by omega
  have f : ∀ (s : Bool) (m u v : Nat), signed s m (u + v) = signed s m u * ((2 ^ v : Nat) : Int) := by
    intro s m u v
    rw [signed_up s m (u + v), signed_up s m u, Nat.pow_add, Int.natCast_mul, Int.mul_assoc]
  rw [e1, e2, f, f]
  exact (compare_scale _ _ _ (Nat.two_pow_pos _)).symm

theorem compare_int (a b : Int) : compare a b = if a < b then .lt else if a = b then .eq else .gt := rfl
theorem cmp_lt {a b : Int} (h : some (compare a b) = some Ordering.lt) : a < b := by
  rw [compare_int] at h
  by_cases c : a < b
  · exact c
  · rw [if_neg c] at h; split at h <;> simp at h
theorem cmp_gt {a b : Int} (h : some (compare a b) = some Ordering.gt) : b < a := by
  rw [compare_int] at h
  by_cases c : a < b
  · rw [if_pos c] at h; simp at h
  · rw [if_neg c] at h
    by_cases d : a = b
    · rw [if_pos d] at h; simp at h
    · omega

theorem read_end : double.read 4845873199050653696 = .number false (2 ^ 52) 1 := rfl
theorem read_0 : double.read 0 = .number false 0 (-1074) := rfl
theorem read_1000 : double.read 4652007308841189376 = .number false (1000 * 2 ^ 43) (-43) := rfl

theorem cut_le (m d k : Nat) (h : m < k * 2 ^ d) (hk : 0 < k) : Toward.zero.cut false m d < k := by
  unfold Toward.cut
  simp only [Bool.false_and, Bool.toNat_false, Nat.add_zero, Nat.one_shiftLeft]
  by_cases c : d ≤ m.log2 + 2
  · rw [Nat.min_eq_left c]
    exact (Nat.div_lt_iff_lt_mul (Nat.two_pow_pos d)).2 h
  · rw [Nat.min_eq_right (by omega)]
    have h1 : m < 2 ^ (m.log2 + 1) := Nat.lt_log2_self
    have h2 : 2 ^ (m.log2 + 1) ≤ 2 ^ (m.log2 + 2) := Nat.pow_le_pow_right (by omega) (by omega)
    rw [Nat.div_eq_of_lt (by omega)]; exact hk

/-- A word below 2^53 that is not below 0 is cut to a number from 0 to 2^53. -/
theorem toInt_small {x : Nat} {m : Nat} {p : Int} (hr : double.read x = .number false m p) (h : (Datum.number false m p).order (.number false (2 ^ 52) 1) = some .lt) :
    ∃ n : Int, floatToIntVal .f64 x .i64 = some n ∧ 0 ≤ n ∧ n ≤ 2 ^ 53 := by
  have hb : Toward.zero.cut false (m <<< p.toNat) (-p).toNat < 2 ^ 53 := by
    rw [order_at false false m (2 ^ 52) p 1 (min p 1) (by omega) (by omega)] at h
    have h := cmp_lt h
    unfold signed at h
    simp only [Bool.false_eq_true, if_false, Nat.shiftLeft_eq] at h
    have h : m * 2 ^ (p - min p 1).toNat < 2 ^ 52 * 2 ^ (1 - min p 1).toNat := by exact_mod_cast h
    rw [Nat.shiftLeft_eq]
    refine cut_le _ _ _ ?_ (Nat.two_pow_pos _)
    by_cases c : p ≤ 0
    · rw [show (p - min p 1).toNat = 0 by omega, show (1 - min p 1).toNat = (-p).toNat + 1 by omega] at h
      rw [show p.toNat = 0 by omega]
      rw [Nat.pow_succ] at h
      omega
    · rw [show (-p).toNat = 0 by omega]
      rw [show (p - min p 1).toNat = p.toNat - 1 by omega, show (1 - min p 1).toNat = 0 by omega] at h
      have e : 2 ^ p.toNat = 2 ^ (p.toNat - 1) * 2 := by rw [← Nat.pow_succ]; congr 1; omega
      rw [e, ← Nat.mul_assoc]
      omega
  refine ⟨((Toward.zero.cut false (m <<< p.toNat) (-p).toNat : Nat) : Int), ?_, by omega, by omega⟩
  have hd : Go.FloatKind.f64.decode x = .number false m p := hr
  unfold floatToIntVal Datum.toInt
  rw [hd]
  simp only [Datum.integral]
  have e : signed false (Toward.zero.cut false (m <<< p.toNat) (-p).toNat) 0 = ((Toward.zero.cut false (m <<< p.toNat) (-p).toNat : Nat) : Int) := by
    unfold signed; simp
  rw [e]
  show (if _ then _ else _) = _
  rw [if_pos]
  have e1 : Go.IntKind.i64.min = -2 ^ 63 := rfl
  have e2 : Go.IntKind.i64.max = 2 ^ 63 - 1 := rfl
  rw [e1, e2]; omega

abbrev ordr (x y : Nat) : Option Ordering := Go.FloatKind.f64.format.order x y
def wholeOf (x : Nat) : Int := if (ordr x 4845873199050653696 == some .gt || ordr x 4845873199050653696 == some .eq) = true then 9007199254740992 else if (ordr x 0 == some .gt) = true then (floatToIntVal .f64 x .i64).getD 0 else 0

theorem ordr_def (x y : Nat) : ordr x y = (double.read x).order (double.read y) := rfl

/-- Above 0 and below 2^53: cut to a number. -/
theorem whole_mid {x : Nat} (h1 : (ordr x 4845873199050653696 == some .gt || ordr x 4845873199050653696 == some .eq) = false) (h2 : (ordr x 0 == some .gt) = true) :
    ∃ n : Int, floatToIntVal .f64 x .i64 = some n ∧ 0 ≤ n ∧ n ≤ 2 ^ 53 := by
  rw [ordr_def, read_end] at h1
  rw [ordr_def, read_0] at h2
  cases hr : double.read x with
  | nan s f => rw [hr] at h2; simp [Datum.order] at h2
  | infinity s =>
    rw [hr] at h1 h2
    cases s
    · simp [Datum.order] at h1
    · simp [Datum.order] at h2
  | number s m p =>
    rw [hr] at h1 h2
    have h2 : (Datum.number s m p).order (.number false 0 (-1074)) = some .gt := by simpa using h2
    have hs : s = false := by
      cases s
      · rfl
      · rw [order_at _ _ _ _ _ _ (min p (-1074)) (by omega) (by omega)] at h2
        have := cmp_gt h2
        unfold signed at this
        simp only [if_true, Bool.false_eq_true, if_false, Nat.zero_shiftLeft] at this
        generalize m <<< (p - min p (-1074)).toNat = q at this
        omega
    subst hs
    refine toInt_small hr ?_
    have h3 : ∃ o, (Datum.number false m p).order (.number false (2 ^ 52) 1) = some o := ⟨_, rfl⟩
    obtain ⟨o, ho⟩ := h3
    rw [ho] at h1 ⊢
    cases o
    · rfl
    · simp at h1
    · simp at h1

theorem wholeOf_range (x : Nat) : 0 ≤ wholeOf x ∧ wholeOf x ≤ 9007199254740992 := by
  unfold wholeOf
  split
  · omega
  · rename_i h1
    split
    · rename_i h2
      obtain ⟨n, e, g1, g2⟩ := whole_mid (by simpa using h1) h2
      rw [e]; simp only [Option.getD_some]; omega
    · omega

set_option maxHeartbeats 8000000 in
set_option maxRecDepth 100000 in
theorem whole_any (x : Nat) (w : World) : Calls Try.prog 18 #[.float .f64 x] w fun e w' => e = .returned (.int .i64 (wholeOf x)) ∧ Drawn0 w w' := by
  unfold wholeOf
  cases h1 : (ordr x 4845873199050653696 == some .gt || ordr x 4845873199050653696 == some .eq)
  · cases h2 : (ordr x 0 == some .gt)
    · go_enter Try.func18, Try.ntmps18
      go_wp2
      go_ret
      exact ⟨by simp, by repeat (first | exact Drawn0.refl _ | apply Drawn0.step)⟩
    · obtain ⟨n, e, g1, g2⟩ := whole_mid h1 h2
      have o3 := fun w => run_convert_float_int (P := Try.prog) w 34 3 .f64 .i64 x n rfl rfl e
      go_enter Try.func18, Try.ntmps18
      go_wp2
      go_ret
      exact ⟨by simp [e], by repeat (first | exact Drawn0.refl _ | apply Drawn0.step)⟩
  · go_enter Try.func18, Try.ntmps18
    go_wp2
    go_ret
    exact ⟨by simp, by repeat (first | exact Drawn0.refl _ | apply Drawn0.step)⟩

/-- From 0 to 1000: the same as int(a). -/
theorem whole_same {x : Nat} (h1 : (ordr x 0 == some .lt) = false) (h2 : (ordr x 4652007308841189376 == some .gt) = false) (h3 : (ordr x x == some .eq) = true) :
    floatToIntVal .f64 x .i64 = some (wholeOf x) := by
  rw [ordr_def, read_0] at h1
  rw [ordr_def, read_1000] at h2
  rw [ordr_def] at h3
  cases hr : double.read x with
  | nan s f => rw [hr] at h3; simp [Datum.order] at h3
  | infinity s =>
    rw [hr] at h1 h2
    cases s
    · simp [Datum.order] at h2
    · simp [Datum.order] at h1
  | number s m p =>
    rw [hr] at h1 h2
    by_cases hm : m = 0
    · subst hm
      have e1 : floatToIntVal .f64 x .i64 = some 0 := by
        have hd : Go.FloatKind.f64.decode x = .number s 0 p := hr
        unfold floatToIntVal Datum.toInt
        rw [hd]
        simp only [Datum.integral]
        have e : signed s (Toward.zero.cut s (0 <<< p.toNat) (-p).toNat) 0 = 0 := by
          unfold signed Toward.cut; cases s <;> simp
        rw [e]; rfl
      rw [e1]
      unfold wholeOf
      have e2 : ordr x 4845873199050653696 = some .lt := by
        rw [ordr_def, read_end, hr, order_at _ _ _ _ _ _ (min p 1) (by omega) (by omega), compare_int, if_pos]
        have h6 : 0 < 2 ^ 52 * 2 ^ (1 - min p 1).toNat := Nat.mul_pos (by decide) (Nat.two_pow_pos _)
        unfold signed
        rw [Nat.shiftLeft_eq, Nat.shiftLeft_eq, Nat.zero_mul]
        generalize 2 ^ 52 * 2 ^ (1 - min p 1).toNat = q at h6 ⊢
        cases s <;> simp only [if_true, Bool.false_eq_true, if_false] <;> omega
      have e3 : ordr x 0 = some .eq := by
        rw [ordr_def, read_0, hr, order_at _ _ _ _ _ _ (min p (-1074)) (by omega) (by omega), compare_int]
        unfold signed
        cases s <;> simp
      rw [e2, e3]; simp
    · have hs : s = false := by
        cases s
        · rfl
        · exfalso
          rw [order_at _ _ _ _ _ _ (min p (-1074)) (by omega) (by omega), compare_int] at h1
          have hlt : signed true m (p - min p (-1074)).toNat < signed false 0 (-1074 - min p (-1074)).toNat := by
            have := Nat.two_pow_pos ((p - min p (-1074)).toNat)
            have h5 : 0 < m * 2 ^ (p - min p (-1074)).toNat := Nat.mul_pos (by omega) this
            unfold signed
            rw [Nat.shiftLeft_eq]
            simp only [if_true, Bool.false_eq_true, if_false, Nat.zero_shiftLeft]
            omega
          rw [if_pos hlt] at h1
          simp at h1
      subst hs
      have hle : signed false m (p - min p (-43)).toNat ≤ signed false (1000 * 2 ^ 43) (-43 - min p (-43)).toNat := by
        rw [order_at _ _ _ _ _ _ (min p (-43)) (by omega) (by omega), compare_int] at h2
        by_cases c : signed false m (p - min p (-43)).toNat ≤ signed false (1000 * 2 ^ 43) (-43 - min p (-43)).toNat
        · exact c
        · rw [if_neg (by omega), if_neg (by omega)] at h2; simp at h2
      have hlt : (Datum.number false m p).order (.number false (2 ^ 52) 1) = some .lt := by
        rw [order_at _ _ _ _ _ _ (min p (-43)) (by omega) (by omega), compare_int, if_pos]
        refine Int.lt_of_le_of_lt hle ?_
        rw [show (1 - min p (-43)).toNat = 44 + (-43 - min p (-43)).toNat by omega, signed_up false (1000 * 2 ^ 43), signed_up false (2 ^ 52) _, Nat.pow_add, Int.natCast_mul]
        have := Nat.two_pow_pos ((-43 - min p (-43)).toNat)
        unfold signed
        simp only [Bool.false_eq_true, if_false, Nat.shiftLeft_zero]
        omega
      obtain ⟨n, e, g1, g2⟩ := toInt_small hr hlt
      rw [e]
      unfold wholeOf
      have e2 : ordr x 4845873199050653696 = some .lt := by rw [ordr_def, read_end, hr]; exact hlt
      have e3 : ordr x 0 = some .gt := by
        rw [ordr_def, read_0, hr, order_at _ _ _ _ _ _ (min p (-1074)) (by omega) (by omega), compare_int]
        have h5 : 0 < m * 2 ^ (p - min p (-1074)).toNat := Nat.mul_pos (by omega) (Nat.two_pow_pos _)
        unfold signed
        simp only [Bool.false_eq_true, if_false, Nat.zero_shiftLeft, Nat.shiftLeft_eq]
        rw [if_neg (by omega), if_neg (by omega)]
      rw [e2, e3, e]; simp
end Go.Proofs.Ytkldfjlbgmppfac.Fl
