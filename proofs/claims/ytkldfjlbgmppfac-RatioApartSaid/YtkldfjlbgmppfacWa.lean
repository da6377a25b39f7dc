import Derived.Test.YtkldfjlbgmppfacSw
namespace Go.Proofs.Ytkldfjlbgmppfac.Fl
open Go.RowKit Go.Proofs.YtkldfjlbgmppfacW.PrintWords Go.Proofs.YtkldfjlbgmppfacW.PrintLast Go.Proofs.YtkldfjlbgmppfacW.PrintMore
set_option linter.unusedVariables false
set_option linter.unusedSimpArgs false

theorem arith_any {P : Program} (op : BinOp) (hop : op = .add ∨ op = .sub ∨ op = .mul) (x y : Nat) : ∃ (r : World → Nat) (n : Nat), ∀ w : World, (Op.floatArith op .f64 x y).run P w = .ok (.float .f64 (r w)) (w.drewN n) := by
  cases h : floatBits op .f64 x y with
  | some r => exact ⟨fun _ => r, 0, fun w => by rw [run_floatArith w h]; rfl⟩
  | none =>
    have hf : (Question.nanBits .f64 x y).forced = false := rfl
    refine ⟨fun w => (Question.nanBits .f64 x y).cut (w.tape w.drawn (.nanBits .f64 x y)), 1, fun w => ?_⟩
    unfold floatBits at h
    rcases hop with rfl | rfl | rfl <;> simp only at h <;> simp [Op.floatArith, h, run_choose_drew, hf] <;> rfl

theorem arith_all {P : Program} (op : BinOp) (hop : op = .add ∨ op = .sub ∨ op = .mul) (x y : Nat) (w : World) : ∃ r n : Nat, (Op.floatArith op .f64 x y).run P w = .ok (.float .f64 r) (w.drewN n) := by
  obtain ⟨r, n, h⟩ := arith_any (P := P) op hop x y
  exact ⟨r w, n, h w⟩
theorem carith_all {P : Program} (op : BinOp) (hop : op = .add ∨ op = .sub ∨ op = .mul) (x y : Nat) (w : World) : ∃ r n : Nat, (Op.Complex.arith op .f64 x y).run P w = .ok r (w.drewN n) := by
  obtain ⟨r, n, h⟩ := arith_all (P := P) op hop x y w
  exact ⟨r, n, by simp [Op.Complex.arith, h]⟩

theorem csum_all {P : Program} (op : BinOp) (hop : op = .add ∨ op = .sub) (t : TypeId) (a b c d : Nat) : ∃ re im n : World → Nat, ∀ w : World, (binOp op t (.complex .f64 a b) (.complex .f64 c d)).run P w = .ok (.complex .f64 (re w) (im w)) (w.drewN (n w)) := by
  have key : ∀ w : World, ∃ q : Nat × Nat × Nat, (binOp op t (.complex .f64 a b) (.complex .f64 c d)).run P w = .ok (.complex .f64 q.1 q.2.1) (w.drewN q.2.2) := by
    intro w
    have hop' : op = .add ∨ op = .sub ∨ op = .mul := by rcases hop with h | h <;> simp [h]
    obtain ⟨r1, n1, h1⟩ := carith_all (P := P) op hop' a c w
    obtain ⟨r2, n2, h2⟩ := carith_all (P := P) op hop' b d (w.drewN n1)
    refine ⟨(r1, r2, n1 + n2), ?_⟩
    rcases hop with rfl | rfl <;> simp [binOp, Op.complexOp, h1, h2]
  obtain ⟨f, hf⟩ := Classical.axiomOfChoice key
  exact ⟨fun w => (f w).1, fun w => (f w).2.1, fun w => (f w).2.2, hf⟩

theorem cmul_all {P : Program} (t : TypeId) (a b c d : Nat) : ∃ re im n : World → Nat, ∀ w : World, (binOp .mul t (.complex .f64 a b) (.complex .f64 c d)).run P w = .ok (.complex .f64 (re w) (im w)) (w.drewN (n w)) := by
  have key : ∀ w : World, ∃ q : Nat × Nat × Nat, (binOp .mul t (.complex .f64 a b) (.complex .f64 c d)).run P w = .ok (.complex .f64 q.1 q.2.1) (w.drewN q.2.2) := by
    intro w
    obtain ⟨r1, n1, h1⟩ := carith_all (P := P) .mul (by simp) a c w
    obtain ⟨r2, n2, h2⟩ := carith_all (P := P) .mul (by simp) b d (w.drewN n1)
    obtain ⟨r3, n3, h3⟩ := carith_all (P := P) .sub (by simp) r1 r2 ((w.drewN n1).drewN n2)
    obtain ⟨r4, n4, h4⟩ := carith_all (P := P) .mul (by simp) a d (((w.drewN n1).drewN n2).drewN n3)
    obtain ⟨r5, n5, h5⟩ := carith_all (P := P) .mul (by simp) b c ((((w.drewN n1).drewN n2).drewN n3).drewN n4)
    obtain ⟨r6, n6, h6⟩ := carith_all (P := P) .add (by simp) r4 r5 (((((w.drewN n1).drewN n2).drewN n3).drewN n4).drewN n5)
    simp only [World.drewN_drewN] at h2 h3 h4 h5 h6
    refine ⟨(r3, r6, n1 + n2 + n3 + n4 + n5 + n6), ?_⟩
    simp [binOp, Op.complexOp, Op.Complex.conv, Op.Complex.product, Op.Complex.mul, Op.Complex.sub, Op.Complex.add, h1, h2, h3, h4, h5, h6]
  obtain ⟨f, hf⟩ := Classical.axiomOfChoice key
  exact ⟨fun w => (f w).1, fun w => (f w).2.1, fun w => (f w).2.2, hf⟩

theorem cmpOf_three (x y : Nat) : cmpOf x y = -1 ∨ cmpOf x y = 0 ∨ cmpOf x y = 1 := by
  unfold cmpOf
  split
  · split <;> simp
  · split
    · simp
    · split
      · simp
      · split <;> simp

set_option maxHeartbeats 8000000 in
set_option maxRecDepth 100000 in
theorem Compare_any (x1 x2 y1 y2 : Nat) (w : World) :
    Calls Try.prog 8 #[.complex .f64 x1 x2, .complex .f64 y1 y2] w fun e w' => ∃ c : Int, e = .returned (.int .i64 c) ∧ (c = -1 ∨ c = 0 ∨ c = 1) ∧ Drawn0 w w' := by
  obtain ⟨re, im, n, hmul⟩ := cmul_all (P := Try.prog) 25 y1 (Go.Op.negFloat .f64 y2) x1 x2
  go_enter Try.func8, Try.ntmps8
  go_wp2_with (first | (go_at_call 17; (with_reducible refine (turned_calls _ _ _).mono ?_); rintro e w1 ⟨rfl, ⟨n1, rfl⟩⟩) | (go_at_call 16; (with_reducible refine (cmp_calls _ _ _).mono ?_); rintro e w1 ⟨rfl, ⟨n1, rfl⟩⟩))
  go_ret
  exact ⟨_, rfl, cmpOf_three _ _, by repeat (first | exact Drawn0.refl _ | apply Drawn0.step)⟩

set_option maxHeartbeats 8000000 in
set_option maxRecDepth 100000 in
theorem Sum2_any (g : Nat) (x1 y1 x2 y2 : Nat) (w : World) (hc0 : w.cell? ⟨g, 0, none⟩ = some (.complex .f64 x1 y1)) (hc1 : w.cell? ⟨g, 1, none⟩ = some (.complex .f64 x2 y2)) :
    Calls Try.prog 11 #[.slice (some ⟨g, 0, none⟩) 2 2] w fun e w' => ∃ x y, e = .returned (.complex .f64 x y) ∧ Drawn0 w w' := by
  go_enter Try.func11, Try.ntmps11
  go_wp2
  go_loopg [2, 7] 3 (fun kq v2 v7 w' => ((∃ x y, v2 = .complex .f64 x y) ∧ ((kq = 3 ∧ v7 = .int .i64 0) ∨ (kq = 2 ∧ v7 = .int .i64 1) ∨ (kq = 1 ∧ v7 = .int .i64 2))) ∧ Drawn0 w w')
  case atStart => exact ⟨⟨⟨_, _, rfl⟩, .inl ⟨rfl, rfl⟩⟩, by repeat (first | exact Drawn0.refl _ | apply Drawn0.step)⟩
  case round =>
    obtain ⟨⟨⟨x, y, rfl⟩, hrel⟩, ⟨m1, rfl⟩⟩ := hrel
    obtain ⟨re1, im1, n1, r1⟩ := csum_all (P := Try.prog) .add (.inl rfl) 25 x y x1 y1
    obtain ⟨re2, im2, n2, r2⟩ := csum_all (P := Try.prog) .add (.inl rfl) 25 x y x2 y2
    rcases hrel with ⟨rfl, rfl⟩ | ⟨rfl, rfl⟩ | ⟨rfl, rfl⟩
    · go_wp2
      go_roundg 2
      case measure => omega
      case rel => exact ⟨⟨⟨_, _, rfl⟩, .inr (.inl ⟨rfl, rfl⟩)⟩, by repeat (first | exact Drawn0.refl _ | apply Drawn0.step)⟩
    · go_wp2
      go_roundg 1
      case measure => omega
      case rel => exact ⟨⟨⟨_, _, rfl⟩, .inr (.inr ⟨rfl, rfl⟩)⟩, by repeat (first | exact Drawn0.refl _ | apply Drawn0.step)⟩
    · go_wp2
      go_ret
      exact ⟨_, _, rfl, by repeat (first | exact Drawn0.refl _ | apply Drawn0.step)⟩
end Go.Proofs.Ytkldfjlbgmppfac.Fl
