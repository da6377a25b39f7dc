import Derived.Test.YtkldfjlbgmppfacWb
namespace Go.Proofs.Ytkldfjlbgmppfac.Fl
open Go.RowKit Go.Proofs.YtkldfjlbgmppfacW.PrintWords Go.Proofs.YtkldfjlbgmppfacW.PrintLast Go.Proofs.YtkldfjlbgmppfacW.PrintMore
set_option linter.unusedVariables false
set_option linter.unusedSimpArgs false
attribute [local go_sem] max2_int min2_int max_two min_two unary_neg_float

set_option maxHeartbeats 8000000 in
set_option maxRecDepth 100000 in
theorem Max_any (g : Nat) (x1 y1 x2 y2 x3 y3 : Nat) (w : World) (hc0 : w.cell? ⟨g, 0, none⟩ = some (.complex .f64 x1 y1)) (hc1 : w.cell? ⟨g, 1, none⟩ = some (.complex .f64 x2 y2)) (hc2 : w.cell? ⟨g, 2, none⟩ = some (.complex .f64 x3 y3)) :
    Calls Try.prog 14 #[.slice (some ⟨g, 0, none⟩) 3 3, .func (.func 8) #[] #[]] w fun e w' => ∃ x y, e = .returned (.complex .f64 x y) ∧ Drawn0 w w' := by
  go_enter Try.func14, Try.ntmps14
  go_wp2
  go_loopg [5, 6] 2 (fun kq v5 v6 w' => ((∃ x y, v5 = .complex .f64 x y) ∧ ((kq = 2 ∧ v6 = .int .i64 1) ∨ (kq = 1 ∧ v6 = .int .i64 2) ∨ (kq = 0 ∧ v6 = .int .i64 3))) ∧ Drawn0 w w')
  case atStart => exact ⟨⟨⟨_, _, rfl⟩, .inl ⟨rfl, rfl⟩⟩, by repeat (first | exact Drawn0.refl _ | apply Drawn0.step)⟩
  case round =>
    obtain ⟨⟨⟨x, y, rfl⟩, hrel⟩, ⟨m1, rfl⟩⟩ := hrel
    rcases hrel with ⟨rfl, rfl⟩ | ⟨rfl, rfl⟩ | ⟨rfl, rfl⟩
    · go_wp2_with (go_at_call 8; (with_reducible refine (Compare_any _ _ _ _ _).mono ?_); rintro e w1 ⟨c, rfl, hc, ⟨n1, rfl⟩⟩; rcases hc with rfl | rfl | rfl)
      all_goals
        go_roundg 1
        case measure => omega
        case rel => exact ⟨⟨⟨_, _, rfl⟩, .inr (.inl ⟨rfl, rfl⟩)⟩, by repeat (first | exact Drawn0.refl _ | apply Drawn0.step)⟩
    · go_wp2_with (go_at_call 8; (with_reducible refine (Compare_any _ _ _ _ _).mono ?_); rintro e w1 ⟨c, rfl, hc, ⟨n1, rfl⟩⟩; rcases hc with rfl | rfl | rfl)
      all_goals
        go_roundg 0
        case measure => omega
        case rel => exact ⟨⟨⟨_, _, rfl⟩, .inr (.inr ⟨rfl, rfl⟩)⟩, by repeat (first | exact Drawn0.refl _ | apply Drawn0.step)⟩
    · go_wp2
      go_ret
      exact ⟨_, _, rfl, by repeat (first | exact Drawn0.refl _ | apply Drawn0.step)⟩

set_option maxHeartbeats 8000000 in
set_option maxRecDepth 100000 in
theorem Min_any (g : Nat) (x1 y1 x2 y2 x3 y3 : Nat) (w : World) (hc0 : w.cell? ⟨g, 0, none⟩ = some (.complex .f64 x1 y1)) (hc1 : w.cell? ⟨g, 1, none⟩ = some (.complex .f64 x2 y2)) (hc2 : w.cell? ⟨g, 2, none⟩ = some (.complex .f64 x3 y3)) :
    Calls Try.prog 15 #[.slice (some ⟨g, 0, none⟩) 3 3, .func (.func 8) #[] #[]] w fun e w' => ∃ x y, e = .returned (.complex .f64 x y) ∧ Drawn0 w w' := by
  go_enter Try.func15, Try.ntmps15
  go_wp2
  go_loopg [5, 6] 2 (fun kq v5 v6 w' => ((∃ x y, v5 = .complex .f64 x y) ∧ ((kq = 2 ∧ v6 = .int .i64 1) ∨ (kq = 1 ∧ v6 = .int .i64 2) ∨ (kq = 0 ∧ v6 = .int .i64 3))) ∧ Drawn0 w w')
  case atStart => exact ⟨⟨⟨_, _, rfl⟩, .inl ⟨rfl, rfl⟩⟩, by repeat (first | exact Drawn0.refl _ | apply Drawn0.step)⟩
  case round =>
    obtain ⟨⟨⟨x, y, rfl⟩, hrel⟩, ⟨m1, rfl⟩⟩ := hrel
    rcases hrel with ⟨rfl, rfl⟩ | ⟨rfl, rfl⟩ | ⟨rfl, rfl⟩
    · go_wp2_with (go_at_call 8; (with_reducible refine (Compare_any _ _ _ _ _).mono ?_); rintro e w1 ⟨c, rfl, hc, ⟨n1, rfl⟩⟩; rcases hc with rfl | rfl | rfl)
      all_goals
        go_roundg 1
        case measure => omega
        case rel => exact ⟨⟨⟨_, _, rfl⟩, .inr (.inl ⟨rfl, rfl⟩)⟩, by repeat (first | exact Drawn0.refl _ | apply Drawn0.step)⟩
    · go_wp2_with (go_at_call 8; (with_reducible refine (Compare_any _ _ _ _ _).mono ?_); rintro e w1 ⟨c, rfl, hc, ⟨n1, rfl⟩⟩; rcases hc with rfl | rfl | rfl)
      all_goals
        go_roundg 0
        case measure => omega
        case rel => exact ⟨⟨⟨_, _, rfl⟩, .inr (.inr ⟨rfl, rfl⟩)⟩, by repeat (first | exact Drawn0.refl _ | apply Drawn0.step)⟩
    · go_wp2
      go_ret
      exact ⟨_, _, rfl, by repeat (first | exact Drawn0.refl _ | apply Drawn0.step)⟩

set_option maxHeartbeats 8000000 in
set_option maxRecDepth 100000 in
theorem Apart_any (g : Nat) (x1 y1 x2 y2 x3 y3 : Nat) (w : World) (hc0 : w.cell? ⟨g, 0, none⟩ = some (.complex .f64 x1 y1)) (hc1 : w.cell? ⟨g, 1, none⟩ = some (.complex .f64 x2 y2)) (hc2 : w.cell? ⟨g, 2, none⟩ = some (.complex .f64 x3 y3)) :
    Calls Try.prog 7 #[.slice (some ⟨g, 0, none⟩) 3 3] w fun e w' => ∃ x y, e = .returned (.complex .f64 x y) ∧ Drawn0 w w' := by
  go_enter Try.func7, Try.ntmps7
  go_wp2_with (first
    | (go_at_call 14; (with_reducible refine (Max_any g x1 y1 x2 y2 x3 y3 _ ?h0 ?h1 ?h2).mono ?_); (case h0 => exact hc0); (case h1 => exact hc1); (case h2 => exact hc2); rintro e w1 ⟨mx1, mx2, rfl, ⟨n1, rfl⟩⟩)
    | (go_at_call 15; (with_reducible refine (Min_any g x1 y1 x2 y2 x3 y3 _ ?h0 ?h1 ?h2).mono ?_); (case h0 => exact hc0); (case h1 => exact hc1); (case h2 => exact hc2); rintro e w1 ⟨mn1, mn2, rfl, ⟨n2, rfl⟩⟩
       obtain ⟨re, im, n, hsub⟩ := csum_all (P := Try.prog) .sub (.inr rfl) 25 mx1 mx2 mn1 mn2))
  go_ret
  exact ⟨_, _, rfl, by repeat (first | exact Drawn0.refl _ | apply Drawn0.step)⟩
end Go.Proofs.Ytkldfjlbgmppfac.Fl
