/- Plain lemmas on numbers: a mask of ones, a counter's next. -/
import Derived.Laws.BitsAllLaws
import Derived.Laws.BitsLemmas
import Derived.RowKit
namespace Go.Proofs.Ytkldfjlbgmppfab.Plain
open Go.RowKit
theorem and_mask (a : Int) (j : Nat) (hj : j ≤ 62) : bits .and .i64 a (((2 ^ j - 1 : Nat)) : Int) = a % ((2 ^ j : Nat) : Int) := by
  have hp : (2 : Nat) ^ j ≤ 2 ^ 62 := Nat.pow_le_pow_right (by omega) hj
  have hpos : 0 < (2 : Nat) ^ j := Nat.two_pow_pos j
  have hb : (BitVec.ofInt 64 (((2 ^ j - 1 : Nat)) : Int)).toNat = 2 ^ j - 1 := by
    rw [BitVec.ofInt_natCast, BitVec.toNat_ofNat]; omega
  have ha : (BitVec.ofInt 64 a).toNat = (a % 18446744073709551616).toNat := by
    rw [BitVec.toNat_ofInt]; rfl
  have hv : (BitVec.ofInt 64 a &&& BitVec.ofInt 64 (((2 ^ j - 1 : Nat)) : Int)).toNat = (a % 18446744073709551616).toNat % 2 ^ j := by
    rw [BitVec.toNat_and, ha, hb, Nat.and_two_pow_sub_one_eq_mod]
  have hlt : (a % 18446744073709551616).toNat % 2 ^ j < 2 ^ j := Nat.mod_lt _ hpos
  show IntKind.i64.wrap ((BitVec.ofInt 64 a &&& BitVec.ofInt 64 (((2 ^ j - 1 : Nat)) : Int)).toNat : Int) = _
  rw [hv, IntKind.wrap_i64]
  have hd : ((2 ^ j : Nat) : Int) ∣ 18446744073709551616 := by
    have : (2 : Nat) ^ j ∣ 18446744073709551616 := Nat.pow_dvd_pow 2 (n := 64) (by omega)
    exact Int.natCast_dvd_natCast.2 this
  have he : (((a % 18446744073709551616).toNat % 2 ^ j : Nat) : Int) = a % ((2 ^ j : Nat) : Int) := by
    rw [Int.natCast_emod, Int.toNat_of_nonneg (Int.emod_nonneg _ (by omega)), Int.emod_emod_of_dvd _ hd]
  rw [← he]
  omega

theorem and_65535 (a : Int) : bits .and .i64 a 65535 = a % 65536 := and_mask a 16 (by omega)
theorem and_range (a : Int) : 0 ≤ bits .and .i64 a 65535 ∧ bits .and .i64 a 65535 < 65536 := by
  rw [and_65535]; omega
/-- 'a & 0xFFFF % n', n at least 1: from 0 to n - 1. -/
theorem masked_mod (a n : Int) (hn : 0 < n) : 0 ≤ Int.tmod (bits .and .i64 a 65535) n ∧ Int.tmod (bits .and .i64 a 65535) n < n := by
  obtain ⟨h0, _⟩ := and_range a
  rw [Int.tmod_eq_emod_of_nonneg h0]
  exact ⟨Int.emod_nonneg _ (by omega), Int.emod_lt_of_pos _ hn⟩
theorem wrap_next {i n : Nat} (h : i < n) (hn : n ≤ 1000) : wrap64 ((i : Int) + 1) = ((i + 1 : Nat) : Int) := by
  unfold wrap64
  omega
end Go.Proofs.Ytkldfjlbgmppfab.Plain
