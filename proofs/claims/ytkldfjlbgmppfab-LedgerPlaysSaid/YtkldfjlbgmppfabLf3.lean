import Derived.Test.YtkldfjlbgmppfabLf2
namespace Go.Proofs.Ytkldfjlbgmppfab.Ld
open Go.RowKit Go.Proofs.YtkldfjlbgmppfabW.PrintWords Go.Proofs.YtkldfjlbgmppfabW.PrintLast Go.Proofs.YtkldfjlbgmppfabW.PrintMore
set_option linter.unusedVariables false
set_option linter.unusedSimpArgs false
attribute [local go_sem] max2_int min2_int max_two min_two

def atI (s : Led) (k : Int) : Int := if 0 ≤ k ∧ k < s.many then (s.p k.toNat).id else 0
def atB (s : Led) (k : Int) : Bool := if 0 ≤ k ∧ k < s.many then (s.p k.toNat).held else false

set_option maxHeartbeats 8000000 in
set_option maxRecDepth 100000 in
theorem At_calls (g : Nat) (s : Led) (hm : s.many ≤ 16) (k : Int) (w : World) (ha : At w g s) : Calls Try.prog 37 #[.pointer (some ⟨g, 0, none⟩), .int .i64 k] w fun e w' => e = .returned (.tuple #[.int .i64 (atI s k), .bool (atB s k)]) ∧ Below w.heap.size w w' := by
  have c1 := ha.many
  have hm2 : (s.many : Int) ≤ 16 := by omega
  by_cases hk : 0 ≤ k ∧ k < s.many
  · have HI : Aside0 (atI s k = (s.p k.toNat).id) := ⟨if_pos hk⟩
    have HJ : Aside0 (atB s k = (s.p k.toNat).held) := ⟨if_pos hk⟩
    obtain ⟨h0, h1⟩ := hk
    obtain ⟨i, rfl⟩ := Int.eq_ofNat_of_zero_le h0
    have hi : i < s.many := by omega
    simp only [Int.toNat_natCast] at HI HJ
    have c2 := ha.held i (by omega)
    have c3 := ha.id i (by omega)
    have c4 := ha.mem i (by omega)
    have q1 : (i : Int) < 16 := by omega
    have q2 : ¬ (s.many : Int) ≤ (i : Int) := by omega
    have q3 : ¬ s.many ≤ i := by omega
    go_enter Try.func37, Try.ntmps37
    go_wp2
    go_quiet (fail)
    go_wp2
    go_ret2
    exact ⟨by rw [HI.out, HJ.out]; rfl, by repeat (first | exact Below.refl _ _ | apply below_alloc | apply below_drew1 | apply pw_below_drewN)⟩
  · have HI : Aside0 (atI s k = 0) := ⟨if_neg hk⟩
    have HJ : Aside0 (atB s k = false) := ⟨if_neg hk⟩
    by_cases h0 : k < 0
    · go_enter Try.func37, Try.ntmps37
      go_wp2
      go_ret2
      exact ⟨by rw [HI.out, HJ.out]; rfl, by repeat (first | exact Below.refl _ _ | apply below_alloc | apply below_drew1 | apply pw_below_drewN)⟩
    · have h1 : (s.many : Int) ≤ k := by omega
      have h2 : ¬ k < 0 := h0
      clear hk h0
      go_enter Try.func37, Try.ntmps37
      go_wp2
      go_ret2
      exact ⟨by rw [HI.out, HJ.out]; rfl, by repeat (first | exact Below.refl _ _ | apply below_alloc | apply below_drew1 | apply pw_below_drewN)⟩

def nobody : Pl := ⟨false, 0, 0⟩
def pos (n : Int) : Int := if n < 0 then 0 else n
def fresh (budget slots : Int) : Led := ⟨pos budget, (if 16 < pos slots then 16 else pos slots).toNat, fun _ => nobody, 0⟩

theorem fresh_at (w : World) (budget slots b m : Int) (hb : pos budget = b) (hm : (if 16 < pos slots then 16 else pos slots) = m) (h0 : 0 ≤ m) : At (w.alloc (.cells #[.int .i64 b, .int .i64 m, .bool false, .int .i64 0, .int .i64 0, .bool false, .int .i64 0, .int .i64 0, .bool false, .int .i64 0, .int .i64 0, .bool false, .int .i64 0, .int .i64 0, .bool false, .int .i64 0, .int .i64 0, .bool false, .int .i64 0, .int .i64 0, .bool false, .int .i64 0, .int .i64 0, .bool false, .int .i64 0, .int .i64 0, .bool false, .int .i64 0, .int .i64 0, .bool false, .int .i64 0, .int .i64 0, .bool false, .int .i64 0, .int .i64 0, .bool false, .int .i64 0, .int .i64 0, .bool false, .int .i64 0, .int .i64 0, .bool false, .int .i64 0, .int .i64 0, .bool false, .int .i64 0, .int .i64 0, .bool false, .int .i64 0, .int .i64 0, .int .i64 0] 70)) w.heap.size (fresh budget slots) := by
  obtain ⟨k, rfl⟩ := Int.eq_ofNat_of_zero_le h0
  subst hb
  unfold fresh
  rw [hm]
  exact heap_alloc_new w _

set_option maxHeartbeats 8000000 in
set_option maxRecDepth 100000 in
theorem New_calls (budget slots : Int) (w : World) : Calls Try.prog 25 #[.int .i64 budget, .int .i64 slots] w fun e w' => e = .returned (.pointer (some ⟨w.heap.size, 0, none⟩)) ∧ At w' w.heap.size (fresh budget slots) ∧ Below w.heap.size w w' := by
  go_enter Try.func25, Try.ntmps25
  go_wp2
  all_goals
    go_ret
    refine ⟨rfl, fresh_at w budget slots _ _ ?_ ?_ ?_, by repeat (first | exact Below.refl _ _ | apply below_alloc | apply below_drew1 | apply pw_below_drewN)⟩
    · unfold pos; split <;> omega
    · unfold pos; (repeat' split) <;> omega
    · omega
end Go.Proofs.Ytkldfjlbgmppfab.Ld
