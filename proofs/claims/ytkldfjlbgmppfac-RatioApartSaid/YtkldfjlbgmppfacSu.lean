import Derived.Test.YtkldfjlbgmppfacFn
import Derived.WalkSpells
import Derived.StillTactics
import Derived.Laws.Pointers
import Derived.KernelRfl
import Derived.IntWalk
namespace Go.Proofs.Ytkldfjlbgmppfac.Fl
open Go.RowKit Go.Proofs.YtkldfjlbgmppfacW.PrintWords Go.Proofs.YtkldfjlbgmppfacW.PrintLast Go.Proofs.YtkldfjlbgmppfacW.PrintMore
set_option linter.unusedVariables false
set_option linter.unusedSimpArgs false
attribute [local go_sem] max2_int min2_int max_two min_two unary_neg_float

theorem sum_bits {x1 y1 x2 y2 : Nat} {a1 b1 a2 b2 : Int} (h1 : Is x1 a1) (h2 : Is y1 b1) (h3 : Is x2 a2) (h4 : Is y2 b2)
    (k1 : a1.natAbs ≤ 2 ^ 26) (k2 : b1.natAbs ≤ 2 ^ 26) (k3 : a2.natAbs ≤ 2 ^ 26) (k4 : b2.natAbs ≤ 2 ^ 26) :
    ∃ x y, cSumBits .add .f64 x1 y1 x2 y2 = some (x, y) ∧ Is x (a1 + a2) ∧ Is y (b1 + b2) := by
  obtain ⟨p1, e1, q1⟩ := is_add h1 h3 (by omega)
  obtain ⟨p2, e2, q2⟩ := is_add h2 h4 (by omega)
  exact ⟨p1, p2, by simp only [cSumBits, e1, e2, Option.bind_some], q1, q2⟩

set_option maxHeartbeats 8000000 in
set_option maxRecDepth 100000 in
theorem Sum2_calls (g : Nat) (x1 y1 x2 y2 : Nat) (a1 b1 a2 b2 : Int) (w : World) (hc0 : w.cell? ⟨g, 0, none⟩ = some (.complex .f64 x1 y1)) (hc1 : w.cell? ⟨g, 1, none⟩ = some (.complex .f64 x2 y2))
    (h1 : Is x1 a1) (h2 : Is y1 b1) (h3 : Is x2 a2) (h4 : Is y2 b2) (k1 : a1.natAbs ≤ 2 ^ 25) (k2 : b1.natAbs ≤ 2 ^ 25) (k3 : a2.natAbs ≤ 2 ^ 25) (k4 : b2.natAbs ≤ 2 ^ 25) :
    Calls Try.prog 11 #[.slice (some ⟨g, 0, none⟩) 2 2] w fun e w' => ∃ x y, e = .returned (.complex .f64 x y) ∧ Is x (a1 + a2) ∧ Is y (b1 + b2) ∧ Drawn0 w w' := by
  obtain ⟨p1, z1, e1, i1, j1⟩ := sum_bits is_zero is_zero h1 h2 (by decide) (by decide) (by omega) (by omega)
  rw [Int.zero_add] at i1 j1
  obtain ⟨p2, z2, e2, i2, j2⟩ := sum_bits i1 j1 h3 h4 (by omega) (by omega) (by omega) (by omega)
  have r1 := fun w => run_complex_sum (P := Try.prog) w .add (.inl rfl) 25 .f64 0 0 x1 y1 p1 z1 e1
  have r2 := fun w => run_complex_sum (P := Try.prog) w .add (.inl rfl) 25 .f64 p1 z1 x2 y2 p2 z2 e2
  go_enter Try.func11, Try.ntmps11
  go_wp2
  go_loopg [2, 7] 3 (fun kq v2 v7 w' => ((kq = 3 ∧ v2 = .complex .f64 0 0 ∧ v7 = .int .i64 0) ∨ (kq = 2 ∧ v2 = .complex .f64 p1 z1 ∧ v7 = .int .i64 1) ∨ (kq = 1 ∧ v2 = .complex .f64 p2 z2 ∧ v7 = .int .i64 2)) ∧ Drawn0 w w')
  case atStart => exact ⟨.inl ⟨rfl, rfl, rfl⟩, by repeat (first | exact Drawn0.refl _ | apply Drawn0.step)⟩
  case round =>
    obtain ⟨hrel, ⟨m1, rfl⟩⟩ := hrel
    rcases hrel with ⟨rfl, rfl, rfl⟩ | ⟨rfl, rfl, rfl⟩ | ⟨rfl, rfl, rfl⟩
    · go_wp2
      go_roundg 2
      case measure => omega
      case rel => exact ⟨.inr (.inl ⟨rfl, rfl, rfl⟩), by repeat (first | exact Drawn0.refl _ | apply Drawn0.step)⟩
    · go_wp2
      go_roundg 1
      case measure => omega
      case rel => exact ⟨.inr (.inr ⟨rfl, rfl, rfl⟩), by repeat (first | exact Drawn0.refl _ | apply Drawn0.step)⟩
    · go_wp2
      go_ret
      exact ⟨_, _, rfl, i2, j2, by repeat (first | exact Drawn0.refl _ | apply Drawn0.step)⟩

set_option maxHeartbeats 8000000 in
set_option maxRecDepth 100000 in
theorem Sum0_calls (w : World) : Calls Try.prog 11 #[.slice none 0 0] w fun e w' => e = .returned (.complex .f64 0 0) ∧ Drawn0 w w' := by
  go_enter Try.func11, Try.ntmps11
  go_wp2
  go_loopg [2, 7] 1 (fun kq v2 v7 w' => (v2 = .complex .f64 0 0 ∧ v7 = .int .i64 0) ∧ Drawn0 w w')
  case atStart => exact ⟨⟨rfl, rfl⟩, by repeat (first | exact Drawn0.refl _ | apply Drawn0.step)⟩
  case round =>
    obtain ⟨⟨rfl, rfl⟩, ⟨m1, rfl⟩⟩ := hrel
    go_wp2
    go_ret
    exact ⟨rfl, by repeat (first | exact Drawn0.refl _ | apply Drawn0.step)⟩
end Go.Proofs.Ytkldfjlbgmppfac.Fl
