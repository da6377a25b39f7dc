import Derived.Test.YtkldfjlbgmppfacSh
import Derived.Test.YtkldfjlbgmppfacSu
namespace Go.Proofs.Ytkldfjlbgmppfac.Fl
open Go.RowKit Go.Proofs.YtkldfjlbgmppfacW.PrintWords Go.Proofs.YtkldfjlbgmppfacW.PrintLast Go.Proofs.YtkldfjlbgmppfacW.PrintMore
set_option linter.unusedVariables false
set_option linter.unusedSimpArgs false
attribute [local go_sem] max2_int min2_int max_two min_two unary_neg_float

theorem ShareW_calls (a b : Int) (w : World) (h1 : 0 ≤ a ∧ a ≤ 16777216) (h2 : 0 ≤ b ∧ b ≤ 16777216) : Calls Try.prog 12 #[.int .i64 a, .int .i64 b] w fun e w' => e = .returned (.complex .f64 (W a) (W b)) ∧ Drawn0 w w' := by
  have := Share_calls a b w
  rw [cut_id h1.1 h1.2, cut_id h2.1 h2.2] at this
  exact this
theorem CompareW_calls (a1 a2 b1 b2 : Int) (w : World) (h1 : a1.natAbs ≤ 2 ^ 25) (h2 : a2.natAbs ≤ 2 ^ 25) (h3 : b1.natAbs ≤ 2 ^ 25) (h4 : b2.natAbs ≤ 2 ^ 25) :
    Calls Try.prog 8 #[.complex .f64 (W a1) (W a2), .complex .f64 (W b1) (W b2)] w fun e w' => e = .returned (.int .i64 (sg (a2 * b1) (b2 * a1))) ∧ Drawn0 w w' :=
  Compare_calls _ _ _ _ a1 a2 b1 b2 w (W_is _ (by omega)) (W_is _ (by omega)) (W_is _ (by omega)) (W_is _ (by omega)) h1 h2 h3 h4
theorem WeightW_calls (a b : Int) (w : World) (h : 0 ≤ a ∧ a ≤ 16777216) : Calls Try.prog 9 #[.complex .f64 (W a) (W b)] w fun e w' => e = .returned (.int .i64 a) ∧ Drawn0 w w' :=
  Weight_calls _ _ a w (W_is _ (by omega)) h.1 (by omega)
theorem CostW_calls (a b : Int) (w : World) (h : 0 ≤ b ∧ b ≤ 16777216) : Calls Try.prog 10 #[.complex .f64 (W a) (W b)] w fun e w' => e = .returned (.int .i64 b) ∧ Drawn0 w w' :=
  Cost_calls _ _ b w (W_is _ (by omega)) h.1 (by omega)
theorem Sum2W_calls (g : Nat) (a1 b1 a2 b2 : Int) (w : World) (hc0 : w.cell? ⟨g, 0, none⟩ = some (.complex .f64 (W a1) (W b1))) (hc1 : w.cell? ⟨g, 1, none⟩ = some (.complex .f64 (W a2) (W b2)))
    (k1 : a1.natAbs ≤ 2 ^ 25) (k2 : b1.natAbs ≤ 2 ^ 25) (k3 : a2.natAbs ≤ 2 ^ 25) (k4 : b2.natAbs ≤ 2 ^ 25) :
    Calls Try.prog 11 #[.slice (some ⟨g, 0, none⟩) 2 2] w fun e w' => ∃ x y, e = .returned (.complex .f64 x y) ∧ Is x (a1 + a2) ∧ Is y (b1 + b2) ∧ Drawn0 w w' :=
  Sum2_calls g _ _ _ _ a1 b1 a2 b2 w hc0 hc1 (W_is _ (by omega)) (W_is _ (by omega)) (W_is _ (by omega)) (W_is _ (by omega)) k1 k2 k3 k4
theorem order_eq {x y : Nat} {a : Int} (h1 : Is x a) (h2 : Is y a) : Go.FloatKind.f64.format.order x y = some .eq := by
  rw [is_order h1 h2]; simp

set_option maxHeartbeats 8000000 in
set_option maxRecDepth 100000 in
theorem shown_calls (w : World) : Calls Try.prog 5 #[] w fun e w' => e = .returned (.bool true) ∧ Below w.heap.size w w' := by
  have i2 : Is 4611686018427387904 2 := W_is 2 (by decide)
  have i6 : Is 4618441417868443648 6 := W_is 6 (by decide)
  have i3 : Is 4613937818241073152 3 := W_is 3 (by decide)
  have i10 : Is 4621819117588971520 10 := W_is 10 (by decide)
  have o1 := order_eq (W_is 2 (by decide)) i2
  have o2 := order_eq (W_is 6 (by decide)) i6
  have s1 : sg (6 * 1) (4 * 2) = -1 := by decide
  have s2 : sg (4 * 2) (6 * 1) = 1 := by decide
  have s3 : sg (6 * 1) (3 * 2) = 0 := by decide
  go_enter Try.func5, Try.ntmps5
  go_wp2_with (first
    | (go_at_call 12; (with_reducible refine (ShareW_calls _ _ _ (by decide) (by decide)).mono ?_); rintro e w1 ⟨rfl, ⟨n1, rfl⟩⟩)
    | (go_at_call 8; (with_reducible refine (CompareW_calls _ _ _ _ _ (by decide) (by decide) (by decide) (by decide)).mono ?_); rintro e w1 ⟨rfl, ⟨n1, rfl⟩⟩; simp only [s1, s2, s3])
    | (go_at_call 11; (with_reducible refine (Sum2W_calls _ 2 6 1 4 _ ?h0 ?h1 (by decide) (by decide) (by decide) (by decide)).mono ?_); (case h0 => exact (blk_cell (alloc_new rfl) 0).trans rfl); (case h1 => exact (blk_cell (alloc_new rfl) 1).trans rfl); rintro e w1 ⟨x, y, rfl, hx, hy, ⟨n1, rfl⟩⟩; have o3 := order_eq hx i3; have o4 := order_eq hy i10)
    | (go_at_call 9; (with_reducible refine (WeightW_calls _ _ _ (by decide)).mono ?_); rintro e w1 ⟨rfl, ⟨n1, rfl⟩⟩)
    | (go_at_call 10; (with_reducible refine (CostW_calls _ _ _ (by decide)).mono ?_); rintro e w1 ⟨rfl, ⟨n1, rfl⟩⟩))
  go_ret
  exact ⟨rfl, by repeat (first | exact Below.refl _ _ | apply below_alloc | apply below_drew1 | apply pw_below_drewN)⟩
end Go.Proofs.Ytkldfjlbgmppfac.Fl
