-- Written by a program of this session out of Lean's own print of the program. Not trusted: Lean checks it.
import Derived.Test.YtkldfjlbgmppfabMLifeBoundsx0
namespace Go.Proofs.Ytkldfjlbgmppfab.MLifeBounds
open Go.RowKit Go.Proofs.YtkldfjlbgmppfabW.PrintWords Go.Proofs.YtkldfjlbgmppfabW.PrintLast Go.Proofs.YtkldfjlbgmppfabW.PrintMore
attribute [local go_sem] max2_int min2_int max_two min_two max_three min_three max_four min_four Wide.cell_twice  -- for this text's walks alone
set_option linter.unusedVariables false
set_option linter.unusedSimpArgs false

theorem eqA59 (d : Nat) (w : World) (x0 y0 x1 y1 x2 y2 x3 y3 : Int) :
    (Op.equalIn (d + 2) 59 (.agg #[.int .i64 x0, .int .i64 x1, .int .i64 x2, .int .i64 x3]) (.agg #[.int .i64 y0, .int .i64 y1, .int .i64 y2, .int .i64 y3])).run Try.prog w = .ok (x0 == y0 && (x1 == y1 && (x2 == y2 && (x3 == y3)))) w := by
  have hs : (Try.prog.info? 3).isSome = true := by kernel_rfl
  obtain ⟨i, hi⟩ := Option.isSome_iff_exists.1 hs
  have hp : Try.prog.plainKey 3 = true := by kernel_rfl
  obtain ⟨b0, hb0⟩ : ∃ b : Bool, b = (x0 == y0) := ⟨_, rfl⟩
  have he0 : ∀ (D : Nat) (w : World), (Op.equalIn (D + 1) 3 (.int .i64 x0) (.int .i64 y0)).run Try.prog w = .ok b0 w := by intro D w; rw [hb0]; simp [Op.equalIn, run_underlying Try.underlying3]
  obtain ⟨b1, hb1⟩ : ∃ b : Bool, b = (x1 == y1) := ⟨_, rfl⟩
  have he1 : ∀ (D : Nat) (w : World), (Op.equalIn (D + 1) 3 (.int .i64 x1) (.int .i64 y1)).run Try.prog w = .ok b1 w := by intro D w; rw [hb1]; simp [Op.equalIn, run_underlying Try.underlying3]
  obtain ⟨b2, hb2⟩ : ∃ b : Bool, b = (x2 == y2) := ⟨_, rfl⟩
  have he2 : ∀ (D : Nat) (w : World), (Op.equalIn (D + 1) 3 (.int .i64 x2) (.int .i64 y2)).run Try.prog w = .ok b2 w := by intro D w; rw [hb2]; simp [Op.equalIn, run_underlying Try.underlying3]
  obtain ⟨b3, hb3⟩ : ∃ b : Bool, b = (x3 == y3) := ⟨_, rfl⟩
  have he3 : ∀ (D : Nat) (w : World), (Op.equalIn (D + 1) 3 (.int .i64 x3) (.int .i64 y3)).run Try.prog w = .ok b3 w := by intro D w; rw [hb3]; simp [Op.equalIn, run_underlying Try.underlying3]
  have hq : ∀ (a0 a1 a2 a3 : Int) (w : World), (part 3 #[Value.int .i64 a0, Value.int .i64 a1, Value.int .i64 a2, Value.int .i64 a3] (0 * 1)).run Try.prog w = .ok (.int .i64 a0) w ∧ (part 3 #[Value.int .i64 a0, Value.int .i64 a1, Value.int .i64 a2, Value.int .i64 a3] (1 * 1)).run Try.prog w = .ok (.int .i64 a1) w ∧ (part 3 #[Value.int .i64 a0, Value.int .i64 a1, Value.int .i64 a2, Value.int .i64 a3] (2 * 1)).run Try.prog w = .ok (.int .i64 a2) w ∧ (part 3 #[Value.int .i64 a0, Value.int .i64 a1, Value.int .i64 a2, Value.int .i64 a3] (3 * 1)).run Try.prog w = .ok (.int .i64 a3) w :=
    fun a0 a1 a2 a3 w => ⟨run_part_plain w hp rfl, run_part_plain w hp rfl, run_part_plain w hp rfl, run_part_plain w hp rfl⟩
  rw [run_equalIn_array w (d + 1) _ _ Try.underlying59 hi, show Try.prog.cellsOf 3 = 1 from by kernel_rfl, ← hb0, ← hb1, ← hb2, ← hb3]
  show (Op.eqItems (d + 1) 3 1 _ _ [0, 1, 2, 3]).run Try.prog w = _
  clear hb0 hb1 hb2 hb3
  simp only [Op.eqItems, Sem.run_bind, (hq _ _ _ _ _).1, (hq _ _ _ _ _).2.1, (hq _ _ _ _ _).2.2.1, (hq _ _ _ _ _).2.2.2, Result.andThen_ok, he0, he1, he2, he3]
  cases b0 <;> cases b1 <;> cases b2 <;> cases b3 <;> simp [(hq _ _ _ _ _).1, (hq _ _ _ _ _).2.1, (hq _ _ _ _ _).2.2.1, (hq _ _ _ _ _).2.2.2, he0, he1, he2, he3]
end Go.Proofs.Ytkldfjlbgmppfab.MLifeBounds
