/- Whole numbers as words of float64: what is exact. -/
import Derived.Laws.ComplexArith
namespace Go.Proofs.Ytkldfjlbgmppfac.Fl
open Ieee
set_option linter.unusedSimpArgs false
set_option linter.unusedVariables false

theorem d_sw : double.signWeight = 2 ^ 63 := rfl
theorem d_bin : double.binade = 2 ^ 52 := rfl
theorem d_inf : double.infRung = 2047 * 2 ^ 52 := rfl
theorem d_least : double.leastPlace = -1074 := rfl
theorem d_fb : double.fractionBits = 52 := rfl

/-- 'x' is a word of the whole number 'n'. -/
def Is (x : Nat) (n : Int) : Prop := ∃ (s : Bool) (m p : Nat), double.read x = .number s m (-(p : Int)) ∧ signed s m 0 = n * ((2 ^ p : Nat) : Int)

theorem word_sign (s : Bool) (r : Nat) (h : r < 2 ^ 63) : (double.word s r / double.signWeight % 2 == 1) = s := by
  rw [d_sw]; unfold Format.word; rw [d_sw]
  cases s
  · simp; omega
  · simp; omega
theorem word_rung (s : Bool) (r : Nat) (h : r < 2 ^ 63) : double.word s r % double.signWeight = r := by
  rw [d_sw]; unfold Format.word; rw [d_sw]
  cases s
  · simp; omega
  · simp; omega

theorem read_lo (s : Bool) (r : Nat) (h : r < 2 ^ 52) : double.read (double.word s r) = .number s r (-1074) := by
  unfold Format.read
  simp only [word_sign s r (by omega), word_rung s r (by omega)]
  rw [d_bin, if_pos h, d_least]
theorem read_hi (s : Bool) (r : Nat) (h1 : 2 ^ 52 ≤ r) (h2 : r < 2047 * 2 ^ 52) : double.read (double.word s r) = .number s (2 ^ 52 + r % 2 ^ 52) (-1074 + (r / 2 ^ 52 - 1 : Nat)) := by
  unfold Format.read
  simp only [word_sign s r (by omega), word_rung s r (by omega)]
  rw [d_bin, if_neg (by omega), d_inf, if_pos h2, d_least]

theorem cut_zero (way : Toward) (s : Bool) (n : Nat) : way.cut s n 0 = n := by
  unfold Toward.cut
  cases way <;> simp [Nat.mod_one]

theorem mul_ne (a p : Nat) (h : a ≠ 0) : a * 2 ^ p ≠ 0 := Nat.mul_ne_zero h (by have := Nat.two_pow_pos p; omega)

theorem cut_exact (s : Bool) (q d : Nat) (hq : q ≠ 0) : Toward.even.cut s (q * 2 ^ d) d = q := by
  have hl : d ≤ (q * 2 ^ d).log2 := (Nat.le_log2 (mul_ne q d hq)).2 (Nat.le_mul_of_pos_left _ (by omega))
  have hp : 0 < 2 ^ d := Nat.two_pow_pos _
  unfold Toward.cut
  simp only [Nat.min_eq_left (show d ≤ (q * 2 ^ d).log2 + 2 by omega), Nat.one_shiftLeft, Nat.mul_mod_left, Nat.mul_div_cancel _ hp]
  have : ¬ (2 ^ d < 2 * 0) := by omega
  have : ¬ (2 ^ d = 2 * 0) := by omega
  simp

theorem log2_scale (a p : Nat) (h : a ≠ 0) : (a * 2 ^ p).log2 = a.log2 + p := by
  have h1 : 2 ^ a.log2 ≤ a := Nat.log2_self_le h
  have h2 : a < 2 ^ (a.log2 + 1) := Nat.lt_log2_self
  refine (Nat.log2_eq_iff (mul_ne a p h)).2 ⟨?_, ?_⟩
  · rw [Nat.pow_add]; exact Nat.mul_le_mul_right _ h1
  · rw [show a.log2 + p + 1 = (a.log2 + 1) + p by omega, Nat.pow_add]; exact Nat.mul_lt_mul_of_pos_right h2 (Nat.two_pow_pos _)

theorem nearest_zero (s : Bool) (p : Int) : double.nearest s 0 p = double.word s 0 := by
  unfold Format.nearest; simp

theorem nearest_eq (s : Bool) (a p : Nat) (h0 : a ≠ 0) (h1 : a < 2 ^ 53) :
    double.nearest s (a * 2 ^ p) (-(p : Int)) = double.word s ((1022 + a.log2) * 2 ^ 52 + a * 2 ^ (52 - a.log2)) := by
  have hL : a.log2 < 53 := (Nat.log2_lt h0).2 h1
  have hK : a * 2 ^ (52 - a.log2) < 2 ^ 53 := by
    have h2 : a < 2 ^ (a.log2 + 1) := Nat.lt_log2_self
    calc a * 2 ^ (52 - a.log2) < 2 ^ (a.log2 + 1) * 2 ^ (52 - a.log2) := Nat.mul_lt_mul_of_pos_right h2 (Nat.two_pow_pos _)
      _ = 2 ^ 53 := by rw [← Nat.pow_add]; congr 1; omega
  have hm : a * 2 ^ p ≠ 0 := mul_ne a p h0
  unfold Format.nearest
  rw [if_neg hm]
  have hlast : max (-(p : Int) + ((a * 2 ^ p).log2 : Nat) - (double.fractionBits : Nat)) double.leastPlace = (a.log2 : Int) - 52 := by
    rw [log2_scale a p h0, d_fb, d_least]; omega
  simp only [hlast]
  rw [d_least, d_bin, d_inf]
  have hkept : Toward.even.cut s ((a * 2 ^ p) <<< (-(p : Int) - ((a.log2 : Int) - 52)).toNat) ((a.log2 : Int) - 52 - -(p : Int)).toNat = a * 2 ^ (52 - a.log2) := by
    by_cases c : p ≤ 52 - a.log2
    · have e1 : (-(p : Int) - ((a.log2 : Int) - 52)).toNat = 52 - a.log2 - p := by omega
      have e2 : ((a.log2 : Int) - 52 - -(p : Int)).toNat = 0 := by omega
      rw [e1, e2, cut_zero, Nat.shiftLeft_eq, Nat.mul_assoc, ← Nat.pow_add]
      congr 2; omega
    · have e1 : (-(p : Int) - ((a.log2 : Int) - 52)).toNat = 0 := by omega
      have e2 : ((a.log2 : Int) - 52 - -(p : Int)).toNat = p - (52 - a.log2) := by omega
      rw [e1, e2, Nat.shiftLeft_zero]
      have e3 : a * 2 ^ p = a * 2 ^ (52 - a.log2) * 2 ^ (p - (52 - a.log2)) := by
        rw [Nat.mul_assoc, ← Nat.pow_add]; congr 2; omega
      rw [e3, cut_exact _ _ _ (mul_ne a _ h0)]
  rw [hkept]
  have e4 : ((a.log2 : Int) - 52 - -1074).toNat = 1022 + a.log2 := by omega
  rw [e4, Nat.min_eq_left (by omega)]

theorem read_nearest (s : Bool) (a p : Nat) (h0 : a ≠ 0) (h1 : a < 2 ^ 53) :
    double.read (double.nearest s (a * 2 ^ p) (-(p : Int))) = .number s (a * 2 ^ (52 - a.log2)) (-((52 - a.log2 : Nat) : Int)) := by
  have hL : a.log2 < 53 := (Nat.log2_lt h0).2 h1
  have hK : a * 2 ^ (52 - a.log2) < 2 ^ 53 := by
    have h2 : a < 2 ^ (a.log2 + 1) := Nat.lt_log2_self
    calc a * 2 ^ (52 - a.log2) < 2 ^ (a.log2 + 1) * 2 ^ (52 - a.log2) := Nat.mul_lt_mul_of_pos_right h2 (Nat.two_pow_pos _)
      _ = 2 ^ 53 := by rw [← Nat.pow_add]; congr 1; omega
  have hK2 : 2 ^ 52 ≤ a * 2 ^ (52 - a.log2) := by
    have h2 : 2 ^ a.log2 ≤ a := Nat.log2_self_le h0
    calc 2 ^ 52 = 2 ^ a.log2 * 2 ^ (52 - a.log2) := by rw [← Nat.pow_add]; congr 1; omega
      _ ≤ _ := Nat.mul_le_mul_right _ h2
  rw [nearest_eq s a p h0 h1, read_hi s _ (by omega) (by omega)]
  congr 1
  · omega
  · omega

theorem is_nearest (s : Bool) (m p : Nat) (n : Int) (h : signed s m 0 = n * ((2 ^ p : Nat) : Int)) (hn : n.natAbs < 2 ^ 53) : Is (double.nearest s m (-(p : Int))) n := by
  have hp : (0 : Int) < ((2 ^ p : Nat) : Int) := by have := Nat.two_pow_pos p; omega
  have hm : m = n.natAbs * 2 ^ p := by
    have h2 := congrArg Int.natAbs h
    rw [Int.natAbs_mul, Int.natAbs_natCast] at h2
    rw [← h2]; unfold signed; cases s <;> simp
  by_cases h0 : n = 0
  · subst h0
    simp at hm; subst hm
    rw [nearest_zero]
    exact ⟨s, 0, 1074, read_lo s 0 (by omega), by unfold signed; generalize 2 ^ 1074 = q; cases s <;> simp⟩
  · have ha : n.natAbs ≠ 0 := by omega
    rw [hm]
    refine ⟨s, _, _, read_nearest s n.natAbs p ha hn, ?_⟩
    have hs : s = decide (n < 0) := by
      unfold signed at h
      have hmpos : 0 < m := by rw [hm]; exact Nat.mul_pos (by omega) (Nat.two_pow_pos p)
      cases s
      · simp at h
        have : 0 < n * ((2 ^ p : Nat) : Int) := by simp; omega
        have := Int.pos_of_mul_pos_left this hp
        simp; omega
      · simp at h
        have h3 : 0 < (-n) * ((2 ^ p : Nat) : Int) := by rw [Int.neg_mul]; simp; omega
        have := Int.pos_of_mul_pos_left h3 hp
        simp; omega
    have e : ((n.natAbs * 2 ^ (52 - n.natAbs.log2) : Nat) : Int) = (n.natAbs : Int) * ((2 ^ (52 - n.natAbs.log2) : Nat) : Int) := by push_cast; rfl
    unfold signed
    rw [Nat.shiftLeft_zero, e]
    by_cases hneg : n < 0
    · simp only [hs, hneg, decide_true, if_true]
      rw [← Int.neg_mul]; congr 1; omega
    · simp only [hs, hneg, decide_false, Bool.false_eq_true, if_false]
      congr 1; omega

theorem is_write (s : Bool) (m p : Nat) (n : Int) (h : signed s m 0 = n * ((2 ^ p : Nat) : Int)) (hn : n.natAbs < 2 ^ 53) : Is (double.write (.number s m (-(p : Int)))) n := is_nearest s m p n h hn

theorem is_ofInt (n : Int) (hn : n.natAbs < 2 ^ 53) : Is (Go.floatOfInt .f64 n) n := by
  refine is_write (decide (n < 0)) n.natAbs 0 n ?_ hn
  unfold signed
  by_cases c : n < 0
  · simp [c]; omega
  · simp [c]; omega

theorem signed_up (s : Bool) (m u : Nat) : signed s m u = signed s m 0 * ((2 ^ u : Nat) : Int) := by
  unfold signed
  rw [Nat.shiftLeft_eq, Nat.shiftLeft_zero]
  cases s <;> simp [Int.neg_mul]

theorem two_pow_split (p q : Nat) (h : p ≤ q) : ((2 ^ q : Nat) : Int) = ((2 ^ p : Nat) : Int) * ((2 ^ (q - p) : Nat) : Int) := by
  rw [← Int.natCast_mul, ← Nat.pow_add]; congr 2; omega

/-- The sum's number. -/
theorem sum_signed {s t : Bool} {m n p q : Nat} {a b : Int} (h1 : signed s m 0 = a * ((2 ^ p : Nat) : Int)) (h2 : signed t n 0 = b * ((2 ^ q : Nat) : Int)) :
    signed s m (-(p : Int) - min (-(p : Int)) (-(q : Int))).toNat + signed t n (-(q : Int) - min (-(p : Int)) (-(q : Int))).toNat = (a + b) * ((2 ^ (max p q) : Nat) : Int) := by
  rw [signed_up s m, signed_up t n, h1, h2]
  rcases Nat.le_total p q with c | c
  · rw [show (-(p : Int) - min (-(p : Int)) (-(q : Int))).toNat = q - p by omega, show (-(q : Int) - min (-(p : Int)) (-(q : Int))).toNat = 0 by omega, Nat.max_eq_right c, two_pow_split p q c]
    simp only [Nat.pow_zero]
    rw [Int.add_mul, Int.mul_assoc, Int.mul_assoc b, ← Int.mul_assoc, ← Int.mul_assoc]
    simp
  · rw [show (-(p : Int) - min (-(p : Int)) (-(q : Int))).toNat = 0 by omega, show (-(q : Int) - min (-(p : Int)) (-(q : Int))).toNat = p - q by omega, Nat.max_eq_left c, two_pow_split q p c]
    simp only [Nat.pow_zero]
    rw [Int.add_mul, Int.mul_assoc b]
    simp

theorem signed_natAbs (b : Bool) (x : Int) (h : x ≠ 0 → b = decide (x < 0)) : signed b x.natAbs 0 = x := by
  by_cases c : x = 0
  · subst c; unfold signed; cases b <;> simp
  · rw [h c]; unfold signed
    by_cases d : x < 0
    · simp [d]; omega
    · simp [d]; omega

theorem is_sum {x y : Datum} {s t : Bool} {m n p q : Nat} {a b : Int} (h1 : x = .number s m (-(p : Int))) (h2 : signed s m 0 = a * ((2 ^ p : Nat) : Int)) (h3 : y = .number t n (-(q : Int))) (h4 : signed t n 0 = b * ((2 ^ q : Nat) : Int)) (h : (a + b).natAbs < 2 ^ 53) :
    ∃ r, (x.sum y).map double.write = some r ∧ Is r (a + b) := by
  subst h1 h3
  have hs := sum_signed h2 h4
  simp only [Datum.sum, Option.map_some]
  generalize hT : signed s m (-(p : Int) - min (-(p : Int)) (-(q : Int))).toNat + signed t n (-(q : Int) - min (-(p : Int)) (-(q : Int))).toNat = T at hs
  refine ⟨_, rfl, ?_⟩
  rw [show min (-(p : Int)) (-(q : Int)) = -((max p q : Nat) : Int) by omega]
  refine is_write _ _ _ _ ?_ h
  rw [← hs]
  refine signed_natAbs _ _ (fun hT0 => ?_)
  rw [if_neg hT0]

theorem signed_not (s : Bool) (m : Nat) : signed (!s) m 0 = - signed s m 0 := by unfold signed; cases s <;> simp

theorem is_add {x y : Nat} {a b : Int} (hx : Is x a) (hy : Is y b) (h : (a + b).natAbs < 2 ^ 53) : ∃ r, Go.floatBits .add .f64 x y = some r ∧ Is r (a + b) := by
  obtain ⟨s, m, p, h1, h2⟩ := hx
  obtain ⟨t, n, q, h3, h4⟩ := hy
  exact is_sum h1 h2 h3 h4 h

theorem is_sub {x y : Nat} {a b : Int} (hx : Is x a) (hy : Is y b) (h : (a - b).natAbs < 2 ^ 53) : ∃ r, Go.floatBits .sub .f64 x y = some r ∧ Is r (a - b) := by
  obtain ⟨s, m, p, h1, h2⟩ := hx
  obtain ⟨t, n, q, h3, h4⟩ := hy
  have h5 : (double.read y).opposite = .number (!t) n (-(q : Int)) := by rw [h3]; rfl
  have h6 : signed (!t) n 0 = (-b) * ((2 ^ q : Nat) : Int) := by rw [signed_not, h4, Int.neg_mul]
  have := is_sum h1 h2 h5 h6 (by rwa [← Int.sub_eq_add_neg])
  rw [← Int.sub_eq_add_neg] at this
  exact this

theorem is_mul {x y : Nat} {a b : Int} (hx : Is x a) (hy : Is y b) (h : (a * b).natAbs < 2 ^ 53) : ∃ r, Go.floatBits .mul .f64 x y = some r ∧ Is r (a * b) := by
  obtain ⟨s, m, p, h1, h2⟩ := hx
  obtain ⟨t, n, q, h3, h4⟩ := hy
  refine ⟨double.write (.number (s ^^ t) (m * n) (-(p : Int) + -(q : Int))), ?_, ?_⟩
  · show ((double.read x).product (double.read y)).map double.write = _
    rw [h1, h3]; rfl
  · rw [show -(p : Int) + -(q : Int) = -((p + q : Nat) : Int) by omega]
    refine is_write _ _ _ _ ?_ h
    have e : signed (s ^^ t) (m * n) 0 = signed s m 0 * signed t n 0 := by
      unfold signed
      simp only [Nat.shiftLeft_zero]
      cases s <;> cases t <;> simp [Int.neg_mul, Int.mul_neg]
    rw [e, h2, h4, Nat.pow_add, Int.natCast_mul, Int.mul_assoc, Int.mul_assoc]
    congr 1
    rw [← Int.mul_assoc, Int.mul_comm _ b, Int.mul_assoc]

theorem read_neg (x : Nat) (s : Bool) (m : Nat) (p : Int) (h : double.read x = .number s m p) : double.read (Go.Op.negFloat .f64 x) = .number (!s) m p := by
  have e1 : Go.Op.negFloat .f64 x % double.signWeight = x % double.signWeight := by
    show (x ^^^ 2 ^ 63) % 2 ^ 63 = x % 2 ^ 63
    rw [Nat.xor_mod_two_pow]; simp
  have e2 : (Go.Op.negFloat .f64 x / double.signWeight % 2 == 1) = !(x / double.signWeight % 2 == 1) := by
    show ((x ^^^ 2 ^ 63) / 2 ^ 63 % 2 == 1) = !(x / 2 ^ 63 % 2 == 1)
    rw [Nat.xor_div_two_pow]
    have : (x / 2 ^ 63 ^^^ 2 ^ 63 / 2 ^ 63) % 2 = (x / 2 ^ 63 % 2) ^^^ 1 := Nat.xor_mod_two_pow (n := 1)
    rw [this]
    rcases Nat.mod_two_eq_zero_or_one (x / 2 ^ 63) with c | c <;> rw [c] <;> rfl
  unfold Format.read at h ⊢
  simp only at h ⊢
  rw [e1, e2]
  split at h
  · rename_i c; rw [if_pos c]; cases h; rfl
  · rename_i c; rw [if_neg c]
    split at h
    · rename_i c2; rw [if_pos c2]; cases h; rfl
    · split at h <;> cases h

theorem is_neg {x : Nat} {a : Int} (hx : Is x a) : Is (Go.Op.negFloat .f64 x) (-a) := by
  obtain ⟨s, m, p, h1, h2⟩ := hx
  exact ⟨!s, m, p, read_neg x s m _ h1, by rw [signed_not, h2, Int.neg_mul]⟩

theorem is_order {x y : Nat} {a b : Int} (hx : Is x a) (hy : Is y b) : Go.FloatKind.f64.format.order x y = some (compare a b) := by
  obtain ⟨s, m, p, h1, h2⟩ := hx
  obtain ⟨t, n, q, h3, h4⟩ := hy
  show (double.read x).order (double.read y) = _
  rw [h1, h3]
  simp only [Datum.order]
  congr 1
  rw [signed_up s m, signed_up t n, h2, h4]
  have key : ∀ k : Nat, 0 < k → compare (a * (k : Int)) (b * (k : Int)) = compare a b := by
    intro k hk
    have hk' : (0 : Int) < (k : Int) := by omega
    show compareOfLessAndEq _ _ = compareOfLessAndEq _ _
    unfold compareOfLessAndEq
    rcases Int.lt_trichotomy a b with c | c | c
    · rw [if_pos c, if_pos (Int.mul_lt_mul_of_pos_right c hk')]
    · subst c; rw [if_neg (Int.lt_irrefl _), if_neg (Int.lt_irrefl _), if_pos rfl, if_pos rfl]
    · have d := Int.mul_lt_mul_of_pos_right c hk'
      rw [if_neg (by omega), if_neg (by omega), if_neg (by omega), if_neg (by omega)]
  rcases Nat.le_total p q with c | c
  · rw [show (-(p : Int) - min (-(p : Int)) (-(q : Int))).toNat = q - p by omega, show (-(q : Int) - min (-(p : Int)) (-(q : Int))).toNat = 0 by omega, Int.mul_assoc, ← two_pow_split p q c]
    simp only [Nat.pow_zero]
    rw [show ((1 : Nat) : Int) = 1 from rfl, Int.mul_one]
    exact key _ (Nat.two_pow_pos _)
  · rw [show (-(p : Int) - min (-(p : Int)) (-(q : Int))).toNat = 0 by omega, show (-(q : Int) - min (-(p : Int)) (-(q : Int))).toNat = p - q by omega, Int.mul_assoc b, ← two_pow_split q p c]
    simp only [Nat.pow_zero]
    rw [show ((1 : Nat) : Int) = 1 from rfl, Int.mul_one]
    exact key _ (Nat.two_pow_pos _)

theorem is_toInt {x : Nat} {a : Int} (hx : Is x a) (h : a.natAbs < 2 ^ 53) : Go.floatToIntVal .f64 x .i64 = some a := by
  obtain ⟨s, m, p, h1, h2⟩ := hx
  have hr : Go.FloatKind.f64.decode x = .number s m (-(p : Int)) := h1
  have hm : m = a.natAbs * 2 ^ p := by
    have h2 := congrArg Int.natAbs h2
    rw [Int.natAbs_mul, Int.natAbs_natCast] at h2
    rw [← h2]; unfold signed; cases s <;> simp
  have hc : Toward.zero.cut s m p = a.natAbs := by
    rw [hm]
    by_cases h0 : a.natAbs = 0
    · rw [h0]; unfold Toward.cut; simp
    have hl : p ≤ (a.natAbs * 2 ^ p).log2 := (Nat.le_log2 (mul_ne _ _ h0)).2 (Nat.le_mul_of_pos_left _ (by omega))
    unfold Toward.cut
    simp only [Nat.min_eq_left (show p ≤ (a.natAbs * 2 ^ p).log2 + 2 by omega), Nat.one_shiftLeft, Nat.mul_mod_left, Nat.mul_div_cancel _ (Nat.two_pow_pos p)]
    simp
  have ht : (Go.FloatKind.f64.decode x).toInt .zero = some a := by
    rw [hr]
    unfold Datum.toInt Datum.integral
    simp only
    rw [show (-(p : Int)).toNat = 0 by omega, show (- -(p : Int)).toNat = p by omega, Nat.shiftLeft_zero, hc]
    congr 1
    have hp : (0 : Int) < ((2 ^ p : Nat) : Int) := by have := Nat.two_pow_pos p; omega
    refine signed_natAbs s a (fun h0 => ?_)
    unfold signed at h2
    have hmpos : 0 < m := by rw [hm]; exact Nat.mul_pos (by omega) (Nat.two_pow_pos p)
    cases s
    · simp at h2
      have : 0 < a * ((2 ^ p : Nat) : Int) := by simp; omega
      have := Int.pos_of_mul_pos_left this hp
      simp; omega
    · simp at h2
      have h3 : 0 < (-a) * ((2 ^ p : Nat) : Int) := by rw [Int.neg_mul]; simp; omega
      have := Int.pos_of_mul_pos_left h3 hp
      simp; omega
  unfold Go.floatToIntVal
  rw [ht]
  simp only
  rw [if_pos]
  have e1 : Go.IntKind.i64.min = -2 ^ 63 := rfl
  have e2 : Go.IntKind.i64.max = 2 ^ 63 - 1 := rfl
  rw [e1, e2]; omega

end Go.Proofs.Ytkldfjlbgmppfac.Fl
