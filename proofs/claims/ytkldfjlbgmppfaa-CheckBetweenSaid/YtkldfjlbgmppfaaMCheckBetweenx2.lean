-- Written by a program of this session out of Lean's own print of the program. Not trusted: Lean checks it.
import Derived.Test.YtkldfjlbgmppfaaMCheckBetweenx0
import Derived.Test.YtkldfjlbgmppfaaMCheckBetweenx1
namespace Go.Proofs.Ytkldfjlbgmppfaa.MCheckBetween
open List (setIfInBounds_toArray set_cons_zero set_cons_succ)
open Go.RowKit Go.Proofs.YtkldfjlbgmppfaaW.PrintWords Go.Proofs.YtkldfjlbgmppfaaW.PrintLast Go.Proofs.YtkldfjlbgmppfaaW.PrintMore
attribute [local go_sem] max2_int min2_int max_two min_two max_three min_three max_four min_four   -- for this text's walks alone
set_option linter.unusedVariables false
set_option linter.unusedSimpArgs false

/-! ### millwrightlaw04_CheckBetween: function 7 -/
def millwrightlaw04_CheckBetween.j0 : Nat → Bool → Bool → Int → Int → Int → Int → Int → Int → Option (Bool)
  | 0, _, _, _, _, _, _, _, _ => none
  | k + 1, x11, x101, x173000, x173001, x174000, x174001, x189000, x189001 => if x101 = true then (some false) else (if x11 = true then ((check_Task.f k x173000 x173001).bind fun t192 => (if t192 = 0 then ((check_Task.f k x174000 x174001).bind fun t193 => (if t193 = 0 then ((check_Task.f k x189000 x189001).bind fun t194 => (some (t194 == 0))) else (some true))) else (some true))) else (some false))
def millwrightlaw04_CheckBetween.f (k : Nat) (a0_0 : Int) (a0_1 : Int) (a0_2 : Int) (a0_3 : Int) (a0_4 : Int) (a0_5 : Int) (a0_6 : Int) (a0_7 : Int) (a0_8 : Int) (a0_9 : Int) (a1_0 : Int) (a1_1 : Int) (a1_2 : Int) (a1_3 : Int) (a1_4 : Int) (a1_5 : Int) (a1_6 : Int) (a1_7 : Int) (a1_8 : Int) (a1_9 : Int) (a2_0 : Int) (a2_1 : Int) (a3_0 : Int) (a3_1 : Int) (a4 : Int) : Option (Bool) := (millwrightlaw04_shown.f k).bind fun t174 => ((millwrightlaw04_mid.f a0_0 a1_0 a4).bind fun t175 => ((millwrightlaw04_mid.f a0_1 a1_1 a4).bind fun t176 => ((millwrightlaw04_mid.f a0_2 a1_2 a4).bind fun t177 => ((millwrightlaw04_mid.f a0_3 a1_3 a4).bind fun t178 => ((millwrightlaw04_mid.f a0_4 a1_4 a4).bind fun t179 => ((millwrightlaw04_mid.f a0_5 a1_5 a4).bind fun t180 => ((millwrightlaw04_mid.f a0_6 a1_6 a4).bind fun t181 => ((millwrightlaw04_mid.f a0_7 a1_7 a4).bind fun t182 => ((millwrightlaw04_mid.f a0_8 a1_8 a4).bind fun t183 => ((millwrightlaw04_mid.f a0_9 a1_9 a4).bind fun t184 => ((millwrightlaw04_mid.f a2_0 a3_0 a4).bind fun t186 => ((millwrightlaw04_mid.f a2_1 a3_1 a4).bind fun t187 => ((check_Config.f k a0_0 a0_1 a0_2 a0_3 a0_4 a0_5 a0_6 a0_7 a0_8 a0_9).bind fun t189 => (if t189 = 0 then ((check_Config.f k a1_0 a1_1 a1_2 a1_3 a1_4 a1_5 a1_6 a1_7 a1_8 a1_9).bind fun t190 => (if t190 = 0 then ((check_Config.f k t175 t176 t177 t178 t179 t180 t181 t182 t183 t184).bind fun t191 => (millwrightlaw04_CheckBetween.j0 k t174 (t191 != 0) a2_0 a2_1 a3_0 a3_1 t186 t187)) else (millwrightlaw04_CheckBetween.j0 k t174 false a2_0 a2_1 a3_0 a3_1 t186 t187))) else (millwrightlaw04_CheckBetween.j0 k t174 false a2_0 a2_1 a3_0 a3_1 t186 t187)))))))))))))))
theorem millwrightlaw04_CheckBetween.mono_l : ∀ k, (∀ y0 y1 y2 y3 y4 y5 y6 y7, LeO (millwrightlaw04_CheckBetween.j0 k y0 y1 y2 y3 y4 y5 y6 y7) (millwrightlaw04_CheckBetween.j0 (k + 1) y0 y1 y2 y3 y4 y5 y6 y7))
  | 0 => fun _ _ _ _ _ _ _ _ r h => by simp [millwrightlaw04_CheckBetween.j0] at h
  | k + 1 => by
    have ih0 := millwrightlaw04_CheckBetween.mono_l k
    · intro y0 y1 y2 y3 y4 y5 y6 y7
      unfold millwrightlaw04_CheckBetween.j0
      repeat' first
      | (with_reducible exact ih0 _ _ _ _ _ _ _ _)
      | (with_reducible exact check_Config.mono _ _ _ _ _ _ _ _ _ _ _)
      | (with_reducible exact check_Task.mono _ _ _)
      | (with_reducible exact millwrightlaw04_shown.mono _)
      | (with_reducible exact LeO.refl _)
      | (with_reducible exact LeO.none _)
      | (with_reducible refine LeO.ite ?_ ?_)
      | (with_reducible refine LeO.bind ?_ (fun _ => ?_))
      | exact ih0 _ _ _ _ _ _ _ _
      | exact check_Config.mono _ _ _ _ _ _ _ _ _ _ _
      | exact check_Task.mono _ _ _
      | exact millwrightlaw04_shown.mono _
      | exact LeO.none _
      | refine LeO.ite ?_ ?_
      | refine LeO.bind ?_ (fun _ => ?_)
theorem millwrightlaw04_CheckBetween.mono : ∀ a0 a1 a2 a3 a4 a5 a6 a7 a8 a9 a10 a11 a12 a13 a14 a15 a16 a17 a18 a19 a20 a21 a22 a23 a24 k, LeO (millwrightlaw04_CheckBetween.f k a0 a1 a2 a3 a4 a5 a6 a7 a8 a9 a10 a11 a12 a13 a14 a15 a16 a17 a18 a19 a20 a21 a22 a23 a24) (millwrightlaw04_CheckBetween.f (k + 1) a0 a1 a2 a3 a4 a5 a6 a7 a8 a9 a10 a11 a12 a13 a14 a15 a16 a17 a18 a19 a20 a21 a22 a23 a24) := by
  intro a0 a1 a2 a3 a4 a5 a6 a7 a8 a9 a10 a11 a12 a13 a14 a15 a16 a17 a18 a19 a20 a21 a22 a23 a24 k
  have ih0 := millwrightlaw04_CheckBetween.mono_l k
  unfold millwrightlaw04_CheckBetween.f
  repeat' first
      | (with_reducible exact ih0 _ _ _ _ _ _ _ _)
      | (with_reducible exact check_Config.mono _ _ _ _ _ _ _ _ _ _ _)
      | (with_reducible exact check_Task.mono _ _ _)
      | (with_reducible exact millwrightlaw04_shown.mono _)
      | (with_reducible exact LeO.refl _)
      | (with_reducible exact LeO.none _)
      | (with_reducible refine LeO.ite ?_ ?_)
      | (with_reducible refine LeO.bind ?_ (fun _ => ?_))
      | exact ih0 _ _ _ _ _ _ _ _
      | exact check_Config.mono _ _ _ _ _ _ _ _ _ _ _
      | exact check_Task.mono _ _ _
      | exact millwrightlaw04_shown.mono _
      | exact LeO.none _
      | refine LeO.ite ?_ ?_
      | refine LeO.bind ?_ (fun _ => ?_)
def millwrightlaw04_CheckBetween.T2 : Bool × List (List Nat × List Nat) := (true, [([], []), ([0], [0]), ([], []), ([2], [2]), ([], []), ([1, 3, 4], [1, 3, 4]), ([], []), ([6], [6]), ([], []), ([8], [8]), ([], []), ([7, 9, 10, 5], [7, 9, 10]), ([], []), ([12], [12]), ([], []), ([14], [14]), ([], []), ([13, 15, 16, 11], [13, 15, 16]), ([], []), ([18], [18]), ([], []), ([20], [20]), ([], []), ([19, 21, 22, 17], [19, 21, 22]), ([], []), ([24], [24]), ([], []), ([26], [26]), ([], []), ([25, 27, 28, 23], [25, 27, 28]), ([], []), ([30], [30]), ([], []), ([32], [32]), ([], []), ([31, 33, 34, 29], [31, 33, 34]), ([], []), ([36], [36]), ([], []), ([38], [38]), ([], []), ([37, 39, 40, 35], [37, 39, 40]), ([], []), ([42], [42]), ([], []), ([44], [44]), ([], []), ([43, 45, 46, 41], [43, 45, 46]), ([], []), ([48], [48]), ([], []), ([50], [50]), ([], []), ([49, 51, 52, 47], [49, 51, 52]), ([], []), ([54], [54]), ([], []), ([56], [56]), ([], []), ([55, 57, 58, 53], [55, 57, 58]), ([5, 11, 17, 23, 29, 35, 41, 47, 53, 59], [5, 11, 17, 23, 29, 35, 41, 47, 53, 59]), ([], []), ([61, 60, 59, 0, 1, 2, 3, 4, 5, 6, 7, 8, 9, 10, 11, 12, 13, 14, 15, 16, 17, 18, 19, 20, 21, 22, 23, 24, 25, 26, 27, 28, 29, 30, 31, 32, 33, 34, 35, 36, 37, 38, 39, 40, 41, 42, 43, 44, 45, 46, 47, 48, 49, 50, 51, 52, 53, 54, 55, 56, 57, 58, 59, 60, 61], [60, 61])])
def millwrightlaw04_CheckBetween.B2 : List Nat := [0, 1, 0, 4, 0, 31, 0, 64, 0, 256, 0, 2047, 0, 4096, 0, 16384, 0, 131071, 0, 262144, 0, 1048576, 0, 8388607, 0, 16777216, 0, 67108864, 0, 536870911, 0, 1073741824, 0, 4294967296, 0, 34359738367, 0, 68719476736, 0, 274877906944, 0, 2199023255551, 0, 4398046511104, 0, 17592186044416, 0, 140737488355327, 0, 281474976710656, 0, 1125899906842624, 0, 9007199254740991, 0, 18014398509481984, 0, 72057594037927936, 0, 576460752303423487, 1152921504606846975, 0, 4611686018427387903]
def mkl : Nat → Nat → List Bool
  | 0, _ => []
  | n + 1, m => (m % 2 == 1) :: mkl n (m / 2)
abbrev mk (n m : Nat) : Array Bool := (mkl n m).toArray
theorem millwrightlaw04_CheckBetween.tab2 : rtab .any (opsOf Try.f7 2) = millwrightlaw04_CheckBetween.T2 := by kernel_rfl
theorem millwrightlaw04_CheckBetween.bits2 : waitsOk millwrightlaw04_CheckBetween.T2.2 millwrightlaw04_CheckBetween.B2 = true := by kernel_rfl
def millwrightlaw04_CheckBetween.T3 : Bool × List (List Nat × List Nat) := (true, [([], []), ([0], [0]), ([], []), ([2], [2]), ([], []), ([1, 3, 4], [1, 3, 4]), ([], []), ([6], [6]), ([], []), ([8], [8]), ([], []), ([7, 9, 10, 5], [7, 9, 10]), ([5, 11], [5, 11]), ([], []), ([13, 12, 11, 0, 1, 2, 3, 4, 5, 6, 7, 8, 9, 10, 11, 12, 13], [12, 13])])
def millwrightlaw04_CheckBetween.B3 : List Nat := [0, 1, 0, 4, 0, 31, 0, 64, 0, 256, 0, 2047, 4095, 0, 16383]
theorem millwrightlaw04_CheckBetween.tab3 : rtab .any (opsOf Try.f7 3) = millwrightlaw04_CheckBetween.T3 := by kernel_rfl
theorem millwrightlaw04_CheckBetween.bits3 : waitsOk millwrightlaw04_CheckBetween.T3.2 millwrightlaw04_CheckBetween.B3 = true := by kernel_rfl
theorem HS_of {gb170 gb171 : Nat} {a0_0 a0_1 a0_2 a0_3 a0_4 a0_5 a0_6 a0_7 a0_8 a0_9 a1_0 a1_1 a1_2 a1_3 a1_4 a1_5 a1_6 a1_7 a1_8 a1_9 : Int} {w' : World} (hgb170 : w'.heap[gb170]? = some (.cells #[.int .i64 a0_0, .int .i64 a0_1, .int .i64 a0_2, .int .i64 a0_3, .int .i64 a0_4, .int .i64 a0_5, .int .i64 a0_6, .int .i64 a0_7, .int .i64 a0_8, .int .i64 a0_9] 23 (0, 0))) (hgb171 : w'.heap[gb171]? = some (.cells #[.int .i64 a1_0, .int .i64 a1_1, .int .i64 a1_2, .int .i64 a1_3, .int .i64 a1_4, .int .i64 a1_5, .int .i64 a1_6, .int .i64 a1_7, .int .i64 a1_8, .int .i64 a1_9] 23 (0, 0))) : w'.cell? ⟨gb170, 0, none⟩ = some (.int .i64 a0_0) ∧ w'.cell? ⟨gb170, 1, none⟩ = some (.int .i64 a0_1) ∧ w'.cell? ⟨gb170, 2, none⟩ = some (.int .i64 a0_2) ∧ w'.cell? ⟨gb170, 3, none⟩ = some (.int .i64 a0_3) ∧ w'.cell? ⟨gb170, 4, none⟩ = some (.int .i64 a0_4) ∧ w'.cell? ⟨gb170, 5, none⟩ = some (.int .i64 a0_5) ∧ w'.cell? ⟨gb170, 6, none⟩ = some (.int .i64 a0_6) ∧ w'.cell? ⟨gb170, 7, none⟩ = some (.int .i64 a0_7) ∧ w'.cell? ⟨gb170, 8, none⟩ = some (.int .i64 a0_8) ∧ w'.cell? ⟨gb170, 9, none⟩ = some (.int .i64 a0_9) ∧ w'.cell? ⟨gb171, 0, none⟩ = some (.int .i64 a1_0) ∧ w'.cell? ⟨gb171, 1, none⟩ = some (.int .i64 a1_1) ∧ w'.cell? ⟨gb171, 2, none⟩ = some (.int .i64 a1_2) ∧ w'.cell? ⟨gb171, 3, none⟩ = some (.int .i64 a1_3) ∧ w'.cell? ⟨gb171, 4, none⟩ = some (.int .i64 a1_4) ∧ w'.cell? ⟨gb171, 5, none⟩ = some (.int .i64 a1_5) ∧ w'.cell? ⟨gb171, 6, none⟩ = some (.int .i64 a1_6) ∧ w'.cell? ⟨gb171, 7, none⟩ = some (.int .i64 a1_7) ∧ w'.cell? ⟨gb171, 8, none⟩ = some (.int .i64 a1_8) ∧ w'.cell? ⟨gb171, 9, none⟩ = some (.int .i64 a1_9) := ⟨(blk_cell hgb170 0).trans rfl, (blk_cell hgb170 1).trans rfl, (blk_cell hgb170 2).trans rfl, (blk_cell hgb170 3).trans rfl, (blk_cell hgb170 4).trans rfl, (blk_cell hgb170 5).trans rfl, (blk_cell hgb170 6).trans rfl, (blk_cell hgb170 7).trans rfl, (blk_cell hgb170 8).trans rfl, (blk_cell hgb170 9).trans rfl, (blk_cell hgb171 0).trans rfl, (blk_cell hgb171 1).trans rfl, (blk_cell hgb171 2).trans rfl, (blk_cell hgb171 3).trans rfl, (blk_cell hgb171 4).trans rfl, (blk_cell hgb171 5).trans rfl, (blk_cell hgb171 6).trans rfl, (blk_cell hgb171 7).trans rfl, (blk_cell hgb171 8).trans rfl, (blk_cell hgb171 9).trans rfl⟩
set_option maxHeartbeats 8000000 in
set_option maxRecDepth 100000 in
theorem millwrightlaw04_CheckBetween.calls (k : Nat) (a0_0 : Int) (a0_1 : Int) (a0_2 : Int) (a0_3 : Int) (a0_4 : Int) (a0_5 : Int) (a0_6 : Int) (a0_7 : Int) (a0_8 : Int) (a0_9 : Int) (a1_0 : Int) (a1_1 : Int) (a1_2 : Int) (a1_3 : Int) (a1_4 : Int) (a1_5 : Int) (a1_6 : Int) (a1_7 : Int) (a1_8 : Int) (a1_9 : Int) (a2_0 : Int) (a2_1 : Int) (a3_0 : Int) (a3_1 : Int) (a4 : Int) (w : World) (h : millwrightlaw04_CheckBetween.f k a0_0 a0_1 a0_2 a0_3 a0_4 a0_5 a0_6 a0_7 a0_8 a0_9 a1_0 a1_1 a1_2 a1_3 a1_4 a1_5 a1_6 a1_7 a1_8 a1_9 a2_0 a2_1 a3_0 a3_1 a4 = some true) :
    Calls Try.prog 7 #[.agg #[.int .i64 a0_0, .int .i64 a0_1, .int .i64 a0_2, .int .i64 a0_3, .int .i64 a0_4, .int .i64 a0_5, .int .i64 a0_6, .int .i64 a0_7, .int .i64 a0_8, .int .i64 a0_9], .agg #[.int .i64 a1_0, .int .i64 a1_1, .int .i64 a1_2, .int .i64 a1_3, .int .i64 a1_4, .int .i64 a1_5, .int .i64 a1_6, .int .i64 a1_7, .int .i64 a1_8, .int .i64 a1_9], .agg #[.int .i64 a2_0, .int .i64 a2_1], .agg #[.int .i64 a3_0, .int .i64 a3_1], .int .u8 a4] w fun e w' => e = .returned (.bool true) ∧ Below w.heap.size w w' := by
  have hu23 := Try.underlying23
  have hu39 := Try.underlying39
  have HB := Aside0.mk (Below.refl w.heap.size w)
  have H : ((millwrightlaw04_shown.f k).bind fun t174 => ((millwrightlaw04_mid.f a0_0 a1_0 a4).bind fun t175 => ((millwrightlaw04_mid.f a0_1 a1_1 a4).bind fun t176 => ((millwrightlaw04_mid.f a0_2 a1_2 a4).bind fun t177 => ((millwrightlaw04_mid.f a0_3 a1_3 a4).bind fun t178 => ((millwrightlaw04_mid.f a0_4 a1_4 a4).bind fun t179 => ((millwrightlaw04_mid.f a0_5 a1_5 a4).bind fun t180 => ((millwrightlaw04_mid.f a0_6 a1_6 a4).bind fun t181 => ((millwrightlaw04_mid.f a0_7 a1_7 a4).bind fun t182 => ((millwrightlaw04_mid.f a0_8 a1_8 a4).bind fun t183 => ((millwrightlaw04_mid.f a0_9 a1_9 a4).bind fun t184 => ((millwrightlaw04_mid.f a2_0 a3_0 a4).bind fun t186 => ((millwrightlaw04_mid.f a2_1 a3_1 a4).bind fun t187 => ((check_Config.f k a0_0 a0_1 a0_2 a0_3 a0_4 a0_5 a0_6 a0_7 a0_8 a0_9).bind fun t189 => (if t189 = 0 then ((check_Config.f k a1_0 a1_1 a1_2 a1_3 a1_4 a1_5 a1_6 a1_7 a1_8 a1_9).bind fun t190 => (if t190 = 0 then ((check_Config.f k t175 t176 t177 t178 t179 t180 t181 t182 t183 t184).bind fun t191 => (millwrightlaw04_CheckBetween.j0 k t174 (t191 != 0) a2_0 a2_1 a3_0 a3_1 t186 t187)) else (millwrightlaw04_CheckBetween.j0 k t174 false a2_0 a2_1 a3_0 a3_1 t186 t187))) else (millwrightlaw04_CheckBetween.j0 k t174 false a2_0 a2_1 a3_0 a3_1 t186 t187)))))))))))))))) = some true := h
  clear h
  replace H := Option.bind_eq_some_iff.mp H
  obtain ⟨t174, A60, H⟩ := H
  (try dsimp only at H)
  have A6 := Aside0.mk A60
  clear A60
  replace H := Option.bind_eq_some_iff.mp H
  obtain ⟨t175, A70, H⟩ := H
  (try dsimp only at H)
  have A7 := Aside0.mk A70
  clear A70
  replace H := Option.bind_eq_some_iff.mp H
  obtain ⟨t176, A80, H⟩ := H
  (try dsimp only at H)
  have A8 := Aside0.mk A80
  clear A80
  replace H := Option.bind_eq_some_iff.mp H
  obtain ⟨t177, A90, H⟩ := H
  (try dsimp only at H)
  have A9 := Aside0.mk A90
  clear A90
  replace H := Option.bind_eq_some_iff.mp H
  obtain ⟨t178, A100, H⟩ := H
  (try dsimp only at H)
  have A10 := Aside0.mk A100
  clear A100
  replace H := Option.bind_eq_some_iff.mp H
  obtain ⟨t179, A110, H⟩ := H
  (try dsimp only at H)
  have A11 := Aside0.mk A110
  clear A110
  replace H := Option.bind_eq_some_iff.mp H
  obtain ⟨t180, A120, H⟩ := H
  (try dsimp only at H)
  have A12 := Aside0.mk A120
  clear A120
  replace H := Option.bind_eq_some_iff.mp H
  obtain ⟨t181, A130, H⟩ := H
  (try dsimp only at H)
  have A13 := Aside0.mk A130
  clear A130
  replace H := Option.bind_eq_some_iff.mp H
  obtain ⟨t182, A140, H⟩ := H
  (try dsimp only at H)
  have A14 := Aside0.mk A140
  clear A140
  replace H := Option.bind_eq_some_iff.mp H
  obtain ⟨t183, A150, H⟩ := H
  (try dsimp only at H)
  have A15 := Aside0.mk A150
  clear A150
  replace H := Option.bind_eq_some_iff.mp H
  obtain ⟨t184, A160, H⟩ := H
  (try dsimp only at H)
  have A16 := Aside0.mk A160
  clear A160
  replace H := Option.bind_eq_some_iff.mp H
  obtain ⟨t186, A170, H⟩ := H
  (try dsimp only at H)
  have A17 := Aside0.mk A170
  clear A170
  replace H := Option.bind_eq_some_iff.mp H
  obtain ⟨t187, A180, H⟩ := H
  (try dsimp only at H)
  have A18 := Aside0.mk A180
  clear A180
  have HC19 := Aside0.mk H
  clear H
  go_enter Try.func7, Try.ntmps7
  try go_wp2_with (first | ((with_reducible refine gate_dst (N := 5) rfl ?_); refine box_event ?hg (N := 5) ?hd (cs := #[.int .i64 a0_0, .int .i64 a0_1, .int .i64 a0_2, .int .i64 a0_3, .int .i64 a0_4, .int .i64 a0_5, .int .i64 a0_6, .int .i64 a0_7, .int .i64 a0_8, .int .i64 a0_9]) (t := 23) ?hr ?_; (case hd => rfl); (case hg => rfl); (case hr => first | (go_simp; done) | (go_simp; rfl)); intro gb170 hg w20 hbox hb; have n0_ := Aside0.mk (below_step (by repeat (first | (with_reducible first | exact HB.out | apply below_alloc | apply pw_below_drewN | apply below_drew1) | exact HB.out)) hb); have n1_ := Aside0.mk (hbox); have n2_ := Aside0.mk ((by rw [hg]; exact (below_size (by repeat (first | (with_reducible first | exact HB.out | apply below_alloc | apply pw_below_drewN | apply below_drew1) | exact HB.out))) : w.heap.size ≤ gb170)); have n3_ := Aside0.mk ((by rw [hg]; exact (below_size (by repeat (first | (with_reducible first | exact HB.out | apply below_alloc | apply pw_below_drewN | apply below_drew1) | exact HB.out))) : w.heap.size ≤ gb170)); clear HB; have HB := n0_; have BK170 := n1_; have GW170 := n2_; have GE170 := n3_; clear n0_ n1_ n2_ n3_; clear hb hbox hg) | ((with_reducible refine gate_dst (N := 6) rfl ?_); refine box_event ?hg (N := 6) ?hd (cs := #[.int .i64 a1_0, .int .i64 a1_1, .int .i64 a1_2, .int .i64 a1_3, .int .i64 a1_4, .int .i64 a1_5, .int .i64 a1_6, .int .i64 a1_7, .int .i64 a1_8, .int .i64 a1_9]) (t := 23) ?hr ?_; (case hd => rfl); (case hg => rfl); (case hr => first | (go_simp; done) | (go_simp; rfl)); intro gb171 hg w21 hbox hb; have n0_ := Aside0.mk (blk_below (by exact BK170.out) hb); have n1_ := Aside0.mk (below_step (by repeat (first | (with_reducible first | exact HB.out | apply below_alloc | apply pw_below_drewN | apply below_drew1 | refine below_set ?_ GE170.out) | exact HB.out)) hb); have n2_ := Aside0.mk (hbox); have n3_ := Aside0.mk ((by rw [hg]; exact (below_size (by repeat (first | (with_reducible first | exact HB.out | apply below_alloc | apply pw_below_drewN | apply below_drew1 | refine below_set ?_ GE170.out) | exact HB.out))) : w.heap.size ≤ gb171)); have n4_ := Aside0.mk ((by rw [hg]; exact (below_size (by repeat (first | (with_reducible first | exact HB.out | apply below_alloc | apply pw_below_drewN | apply below_drew1 | refine below_set ?_ GE170.out) | exact HB.out))) : w.heap.size ≤ gb171)); have n5_ := Aside0.mk ((by rw [hg]; exact Nat.ne_of_lt (blk_lt BK170.out) : gb170 ≠ gb171)); have n6_ := Aside0.mk ((by rw [hg]; exact Nat.ne_of_gt (blk_lt BK170.out) : gb171 ≠ gb170)); clear BK170; clear HB; have BK170 := n0_; have HB := n1_; have BK171 := n2_; have GW171 := n3_; have GE171 := n4_; have NB170_171 := n5_; have NB171_170 := n6_; clear n0_ n1_ n2_ n3_ n4_ n5_ n6_; clear hb hbox hg) | ((with_reducible refine gate_dst (N := 7) rfl ?_); refine box_event ?hg (N := 7) ?hd (cs := #[.int .i64 a2_0, .int .i64 a2_1]) (t := 39) ?hr ?_; (case hd => rfl); (case hg => rfl); (case hr => first | (go_simp; done) | (go_simp; rfl)); intro gb172 hg w22 hbox hb; have n0_ := Aside0.mk (blk_below (by exact BK170.out) hb); have n1_ := Aside0.mk (blk_below (by exact BK171.out) hb); have n2_ := Aside0.mk (below_step (by repeat (first | (with_reducible first | exact HB.out | apply below_alloc | apply pw_below_drewN | apply below_drew1 | refine below_set ?_ GE170.out | refine below_set ?_ GE171.out) | exact HB.out)) hb); have n3_ := Aside0.mk (hbox); have n4_ := Aside0.mk ((by rw [hg]; exact (below_size (by repeat (first | (with_reducible first | exact HB.out | apply below_alloc | apply pw_below_drewN | apply below_drew1 | refine below_set ?_ GE170.out | refine below_set ?_ GE171.out) | exact HB.out))) : w.heap.size ≤ gb172)); have n5_ := Aside0.mk ((by rw [hg]; exact (below_size (by repeat (first | (with_reducible first | exact HB.out | apply below_alloc | apply pw_below_drewN | apply below_drew1 | refine below_set ?_ GE170.out | refine below_set ?_ GE171.out) | exact HB.out))) : w.heap.size ≤ gb172)); have n6_ := Aside0.mk ((by rw [hg]; exact Nat.ne_of_lt (blk_lt BK170.out) : gb170 ≠ gb172)); have n7_ := Aside0.mk ((by rw [hg]; exact Nat.ne_of_gt (blk_lt BK170.out) : gb172 ≠ gb170)); have n8_ := Aside0.mk ((by rw [hg]; exact Nat.ne_of_lt (blk_lt BK171.out) : gb171 ≠ gb172)); have n9_ := Aside0.mk ((by rw [hg]; exact Nat.ne_of_gt (blk_lt BK171.out) : gb172 ≠ gb171)); clear BK170; clear BK171; clear HB; have BK170 := n0_; have BK171 := n1_; have HB := n2_; have BK172 := n3_; have GW172 := n4_; have GE172 := n5_; have NB170_172 := n6_; have NB172_170 := n7_; have NB171_172 := n8_; have NB172_171 := n9_; clear n0_ n1_ n2_ n3_ n4_ n5_ n6_ n7_ n8_ n9_; clear hb hbox hg) | ((with_reducible refine gate_dst (N := 8) rfl ?_); refine box_event ?hg (N := 8) ?hd (cs := #[.int .i64 a3_0, .int .i64 a3_1]) (t := 39) ?hr ?_; (case hd => rfl); (case hg => rfl); (case hr => first | (go_simp; done) | (go_simp; rfl)); intro gb173 hg w23 hbox hb; have n0_ := Aside0.mk (blk_below (by exact BK170.out) hb); have n1_ := Aside0.mk (blk_below (by exact BK171.out) hb); have n2_ := Aside0.mk (blk_below (by exact BK172.out) hb); have n3_ := Aside0.mk (below_step (by repeat (first | (with_reducible first | exact HB.out | apply below_alloc | apply pw_below_drewN | apply below_drew1 | refine below_set ?_ GE170.out | refine below_set ?_ GE171.out | refine below_set ?_ GE172.out) | exact HB.out)) hb); have n4_ := Aside0.mk (hbox); have n5_ := Aside0.mk ((by rw [hg]; exact (below_size (by repeat (first | (with_reducible first | exact HB.out | apply below_alloc | apply pw_below_drewN | apply below_drew1 | refine below_set ?_ GE170.out | refine below_set ?_ GE171.out | refine below_set ?_ GE172.out) | exact HB.out))) : w.heap.size ≤ gb173)); have n6_ := Aside0.mk ((by rw [hg]; exact (below_size (by repeat (first | (with_reducible first | exact HB.out | apply below_alloc | apply pw_below_drewN | apply below_drew1 | refine below_set ?_ GE170.out | refine below_set ?_ GE171.out | refine below_set ?_ GE172.out) | exact HB.out))) : w.heap.size ≤ gb173)); have n7_ := Aside0.mk ((by rw [hg]; exact Nat.ne_of_lt (blk_lt BK170.out) : gb170 ≠ gb173)); have n8_ := Aside0.mk ((by rw [hg]; exact Nat.ne_of_gt (blk_lt BK170.out) : gb173 ≠ gb170)); have n9_ := Aside0.mk ((by rw [hg]; exact Nat.ne_of_lt (blk_lt BK171.out) : gb171 ≠ gb173)); have n10_ := Aside0.mk ((by rw [hg]; exact Nat.ne_of_gt (blk_lt BK171.out) : gb173 ≠ gb171)); have n11_ := Aside0.mk ((by rw [hg]; exact Nat.ne_of_lt (blk_lt BK172.out) : gb172 ≠ gb173)); have n12_ := Aside0.mk ((by rw [hg]; exact Nat.ne_of_gt (blk_lt BK172.out) : gb173 ≠ gb172)); clear BK170; clear BK171; clear BK172; clear HB; have BK170 := n0_; have BK171 := n1_; have BK172 := n2_; have HB := n3_; have BK173 := n4_; have GW173 := n5_; have GE173 := n6_; have NB170_173 := n7_; have NB173_170 := n8_; have NB171_173 := n9_; have NB173_171 := n10_; have NB172_173 := n11_; have NB173_172 := n12_; clear n0_ n1_ n2_ n3_ n4_ n5_ n6_ n7_ n8_ n9_ n10_ n11_ n12_; clear hb hbox hg) | ((with_reducible refine gate_callee (f := 13) rfl ?_); refine goesL_ (some 14) rfl rfl Try.func13 (by kernel_rfl) rfl #[] rfl (by (try simp only [List.map_toArray, List.map_cons, List.map_nil]); first | done | rfl | (simp only [List.length_drop, List.length_take]; rfl)) ?_; (with_reducible refine (millwrightlaw04_shown.calls k  t174 _ A6.out).mono ?_); rintro e w24 ⟨rfl, hb⟩; refine ⟨_, rfl, ?_⟩; have n0_ := Aside0.mk (blk_below (by exact BK170.out) hb); have n1_ := Aside0.mk (blk_below (by exact BK171.out) hb); have n2_ := Aside0.mk (blk_below (by exact BK172.out) hb); have n3_ := Aside0.mk (blk_below (by exact BK173.out) hb); have n4_ := Aside0.mk (below_step (by repeat (first | (with_reducible first | exact HB.out | apply below_alloc | apply pw_below_drewN | apply below_drew1 | refine below_set ?_ GE170.out | refine below_set ?_ GE171.out | refine below_set ?_ GE172.out | refine below_set ?_ GE173.out) | exact HB.out)) hb); clear BK170; clear BK171; clear BK172; clear BK173; clear HB; have BK170 := n0_; have BK171 := n1_; have BK172 := n2_; have BK173 := n3_; have HB := n4_; clear n0_ n1_ n2_ n3_ n4_; (try clear hb); (try clear hb2); (try clear hk); (try clear hi)))
  have n0_ := Aside0.mk (blk_drew BK170.out)
  have n1_ := Aside0.mk (blk_drew BK171.out)
  have n2_ := Aside0.mk (blk_drew BK172.out)
  have n3_ := Aside0.mk (blk_drew BK173.out)
  have n4_ := Aside0.mk (below_drew1 HB.out)
  clear BK170
  clear BK171
  clear BK172
  clear BK173
  clear HB
  have BK170 := n0_
  have BK171 := n1_
  have BK172 := n2_
  have BK173 := n3_
  have HB := n4_
  clear n0_ n1_ n2_ n3_ n4_
  refine start_ (n := 63) (S := fun w' => w'.cell? ⟨gb170, 0, none⟩ = some (.int .i64 a0_0) ∧ w'.cell? ⟨gb170, 1, none⟩ = some (.int .i64 a0_1) ∧ w'.cell? ⟨gb170, 2, none⟩ = some (.int .i64 a0_2) ∧ w'.cell? ⟨gb170, 3, none⟩ = some (.int .i64 a0_3) ∧ w'.cell? ⟨gb170, 4, none⟩ = some (.int .i64 a0_4) ∧ w'.cell? ⟨gb170, 5, none⟩ = some (.int .i64 a0_5) ∧ w'.cell? ⟨gb170, 6, none⟩ = some (.int .i64 a0_6) ∧ w'.cell? ⟨gb170, 7, none⟩ = some (.int .i64 a0_7) ∧ w'.cell? ⟨gb170, 8, none⟩ = some (.int .i64 a0_8) ∧ w'.cell? ⟨gb170, 9, none⟩ = some (.int .i64 a0_9) ∧ w'.cell? ⟨gb171, 0, none⟩ = some (.int .i64 a1_0) ∧ w'.cell? ⟨gb171, 1, none⟩ = some (.int .i64 a1_1) ∧ w'.cell? ⟨gb171, 2, none⟩ = some (.int .i64 a1_2) ∧ w'.cell? ⟨gb171, 3, none⟩ = some (.int .i64 a1_3) ∧ w'.cell? ⟨gb171, 4, none⟩ = some (.int .i64 a1_4) ∧ w'.cell? ⟨gb171, 5, none⟩ = some (.int .i64 a1_5) ∧ w'.cell? ⟨gb171, 6, none⟩ = some (.int .i64 a1_6) ∧ w'.cell? ⟨gb171, 7, none⟩ = some (.int .i64 a1_7) ∧ w'.cell? ⟨gb171, 8, none⟩ = some (.int .i64 a1_8) ∧ w'.cell? ⟨gb171, 9, none⟩ = some (.int .i64 a1_9)) (ds := []) (mk 63 0) (by kernel_rfl) rfl rfl ⟨(blk_cell BK170.out 0).trans rfl, (blk_cell BK170.out 1).trans rfl, (blk_cell BK170.out 2).trans rfl, (blk_cell BK170.out 3).trans rfl, (blk_cell BK170.out 4).trans rfl, (blk_cell BK170.out 5).trans rfl, (blk_cell BK170.out 6).trans rfl, (blk_cell BK170.out 7).trans rfl, (blk_cell BK170.out 8).trans rfl, (blk_cell BK170.out 9).trans rfl, (blk_cell BK171.out 0).trans rfl, (blk_cell BK171.out 1).trans rfl, (blk_cell BK171.out 2).trans rfl, (blk_cell BK171.out 3).trans rfl, (blk_cell BK171.out 4).trans rfl, (blk_cell BK171.out 5).trans rfl, (blk_cell BK171.out 6).trans rfl, (blk_cell BK171.out 7).trans rfl, (blk_cell BK171.out 8).trans rfl, (blk_cell BK171.out 9).trans rfl⟩ (fun hHeld => ?_); refine with_tabW millwrightlaw04_CheckBetween.tab2 millwrightlaw04_CheckBetween.bits2 (fun HT_ HW_ => ?_)
  generalize w24.drew = w25 at BK170 BK171 BK172 BK173 HB hHeld ⊢
  refine pure_ (i := 0) (N := some 15) (v := ?_) (a' := ?_) (mk 63 1) rfl rfl (any_of HT_.out (by kernel_rfl)) (fun _ _ _ h => h) (Or.inl ⟨by rfl, ?_⟩) ?_ ?_
  rotate_left
  · intro w'
    go_simp
    with_reducible rfl
  rotate_left
  · simp only [Act.put, setIfInBounds_toArray, set_cons_zero, set_cons_succ, i64_w, i32_w]
    rfl
  refine pure_ (i := 2) (N := some 17) (v := ?_) (a' := ?_) (mk 63 5) rfl rfl (any_of HT_.out (by kernel_rfl)) (fun _ _ _ h => h) (Or.inl ⟨by rfl, ?_⟩) ?_ ?_
  rotate_left
  · intro w'
    go_simp
    with_reducible rfl
  rotate_left
  · simp only [Act.put, setIfInBounds_toArray, set_cons_zero, set_cons_succ, i64_w, i32_w]
    rfl
  refine pure_ (i := 4) (N := some 19) (v := ?_) (a' := ?_) (mk 63 21) rfl rfl (any_of HT_.out (by kernel_rfl)) (fun _ _ _ h => h) (Or.inl ⟨by rfl, ?_⟩) ?_ ?_
  rotate_left
  · intro w'
    go_simp
    with_reducible rfl
  rotate_left
  · simp only [Act.put, setIfInBounds_toArray, set_cons_zero, set_cons_succ, i64_w, i32_w]
    rfl
  refine pure_ (i := 6) (N := some 21) (v := ?_) (a' := ?_) (mk 63 85) rfl rfl (any_of HT_.out (by kernel_rfl)) (fun _ _ _ h => h) (Or.inl ⟨by rfl, ?_⟩) ?_ ?_
  rotate_left
  · intro w'
    go_simp
    with_reducible rfl
  rotate_left
  · simp only [Act.put, setIfInBounds_toArray, set_cons_zero, set_cons_succ, i64_w, i32_w]
    rfl
  refine pure_ (i := 8) (N := some 23) (v := ?_) (a' := ?_) (mk 63 341) rfl rfl (any_of HT_.out (by kernel_rfl)) (fun _ _ _ h => h) (Or.inl ⟨by rfl, ?_⟩) ?_ ?_
  rotate_left
  · intro w'
    go_simp
    with_reducible rfl
  rotate_left
  · simp only [Act.put, setIfInBounds_toArray, set_cons_zero, set_cons_succ, i64_w, i32_w]
    rfl
  refine pure_ (i := 10) (N := some 25) (v := ?_) (a' := ?_) (mk 63 1365) rfl rfl (any_of HT_.out (by kernel_rfl)) (fun _ _ _ h => h) (Or.inl ⟨by rfl, ?_⟩) ?_ ?_
  rotate_left
  · intro w'
    go_simp
    with_reducible rfl
  rotate_left
  · simp only [Act.put, setIfInBounds_toArray, set_cons_zero, set_cons_succ, i64_w, i32_w]
    rfl
  refine pure_ (i := 12) (N := some 27) (v := ?_) (a' := ?_) (mk 63 5461) rfl rfl (any_of HT_.out (by kernel_rfl)) (fun _ _ _ h => h) (Or.inl ⟨by rfl, ?_⟩) ?_ ?_
  rotate_left
  · intro w'
    go_simp
    with_reducible rfl
  rotate_left
  · simp only [Act.put, setIfInBounds_toArray, set_cons_zero, set_cons_succ, i64_w, i32_w]
    rfl
  refine pure_ (i := 14) (N := some 29) (v := ?_) (a' := ?_) (mk 63 21845) rfl rfl (any_of HT_.out (by kernel_rfl)) (fun _ _ _ h => h) (Or.inl ⟨by rfl, ?_⟩) ?_ ?_
  rotate_left
  · intro w'
    go_simp
    with_reducible rfl
  rotate_left
  · simp only [Act.put, setIfInBounds_toArray, set_cons_zero, set_cons_succ, i64_w, i32_w]
    rfl
  refine pure_ (i := 16) (N := some 31) (v := ?_) (a' := ?_) (mk 63 87381) rfl rfl (any_of HT_.out (by kernel_rfl)) (fun _ _ _ h => h) (Or.inl ⟨by rfl, ?_⟩) ?_ ?_
  rotate_left
  · intro w'
    go_simp
    with_reducible rfl
  rotate_left
  · simp only [Act.put, setIfInBounds_toArray, set_cons_zero, set_cons_succ, i64_w, i32_w]
    rfl
  refine pure_ (i := 18) (N := some 33) (v := ?_) (a' := ?_) (mk 63 349525) rfl rfl (any_of HT_.out (by kernel_rfl)) (fun _ _ _ h => h) (Or.inl ⟨by rfl, ?_⟩) ?_ ?_
  rotate_left
  · intro w'
    go_simp
    with_reducible rfl
  rotate_left
  · simp only [Act.put, setIfInBounds_toArray, set_cons_zero, set_cons_succ, i64_w, i32_w]
    rfl
  refine pure_ (i := 20) (N := some 35) (v := ?_) (a' := ?_) (mk 63 1398101) rfl rfl (any_of HT_.out (by kernel_rfl)) (fun _ _ _ h => h) (Or.inl ⟨by rfl, ?_⟩) ?_ ?_
  rotate_left
  · intro w'
    go_simp
    with_reducible rfl
  rotate_left
  · simp only [Act.put, setIfInBounds_toArray, set_cons_zero, set_cons_succ, i64_w, i32_w]
    rfl
  refine pure_ (i := 22) (N := some 37) (v := ?_) (a' := ?_) (mk 63 5592405) rfl rfl (any_of HT_.out (by kernel_rfl)) (fun _ _ _ h => h) (Or.inl ⟨by rfl, ?_⟩) ?_ ?_
  rotate_left
  · intro w'
    go_simp
    with_reducible rfl
  rotate_left
  · simp only [Act.put, setIfInBounds_toArray, set_cons_zero, set_cons_succ, i64_w, i32_w]
    rfl
  refine pure_ (i := 24) (N := some 39) (v := ?_) (a' := ?_) (mk 63 22369621) rfl rfl (any_of HT_.out (by kernel_rfl)) (fun _ _ _ h => h) (Or.inl ⟨by rfl, ?_⟩) ?_ ?_
  rotate_left
  · intro w'
    go_simp
    with_reducible rfl
  rotate_left
  · simp only [Act.put, setIfInBounds_toArray, set_cons_zero, set_cons_succ, i64_w, i32_w]
    rfl
  refine pure_ (i := 26) (N := some 41) (v := ?_) (a' := ?_) (mk 63 89478485) rfl rfl (any_of HT_.out (by kernel_rfl)) (fun _ _ _ h => h) (Or.inl ⟨by rfl, ?_⟩) ?_ ?_
  rotate_left
  · intro w'
    go_simp
    with_reducible rfl
  rotate_left
  · simp only [Act.put, setIfInBounds_toArray, set_cons_zero, set_cons_succ, i64_w, i32_w]
    rfl
  refine pure_ (i := 28) (N := some 43) (v := ?_) (a' := ?_) (mk 63 357913941) rfl rfl (any_of HT_.out (by kernel_rfl)) (fun _ _ _ h => h) (Or.inl ⟨by rfl, ?_⟩) ?_ ?_
  rotate_left
  · intro w'
    go_simp
    with_reducible rfl
  rotate_left
  · simp only [Act.put, setIfInBounds_toArray, set_cons_zero, set_cons_succ, i64_w, i32_w]
    rfl
  refine pure_ (i := 30) (N := some 45) (v := ?_) (a' := ?_) (mk 63 1431655765) rfl rfl (any_of HT_.out (by kernel_rfl)) (fun _ _ _ h => h) (Or.inl ⟨by rfl, ?_⟩) ?_ ?_
  rotate_left
  · intro w'
    go_simp
    with_reducible rfl
  rotate_left
  · simp only [Act.put, setIfInBounds_toArray, set_cons_zero, set_cons_succ, i64_w, i32_w]
    rfl
  refine pure_ (i := 32) (N := some 47) (v := ?_) (a' := ?_) (mk 63 5726623061) rfl rfl (any_of HT_.out (by kernel_rfl)) (fun _ _ _ h => h) (Or.inl ⟨by rfl, ?_⟩) ?_ ?_
  rotate_left
  · intro w'
    go_simp
    with_reducible rfl
  rotate_left
  · simp only [Act.put, setIfInBounds_toArray, set_cons_zero, set_cons_succ, i64_w, i32_w]
    rfl
  refine pure_ (i := 34) (N := some 49) (v := ?_) (a' := ?_) (mk 63 22906492245) rfl rfl (any_of HT_.out (by kernel_rfl)) (fun _ _ _ h => h) (Or.inl ⟨by rfl, ?_⟩) ?_ ?_
  rotate_left
  · intro w'
    go_simp
    with_reducible rfl
  rotate_left
  · simp only [Act.put, setIfInBounds_toArray, set_cons_zero, set_cons_succ, i64_w, i32_w]
    rfl
  refine pure_ (i := 36) (N := some 51) (v := ?_) (a' := ?_) (mk 63 91625968981) rfl rfl (any_of HT_.out (by kernel_rfl)) (fun _ _ _ h => h) (Or.inl ⟨by rfl, ?_⟩) ?_ ?_
  rotate_left
  · intro w'
    go_simp
    with_reducible rfl
  rotate_left
  · simp only [Act.put, setIfInBounds_toArray, set_cons_zero, set_cons_succ, i64_w, i32_w]
    rfl
  refine pure_ (i := 38) (N := some 53) (v := ?_) (a' := ?_) (mk 63 366503875925) rfl rfl (any_of HT_.out (by kernel_rfl)) (fun _ _ _ h => h) (Or.inl ⟨by rfl, ?_⟩) ?_ ?_
  rotate_left
  · intro w'
    go_simp
    with_reducible rfl
  rotate_left
  · simp only [Act.put, setIfInBounds_toArray, set_cons_zero, set_cons_succ, i64_w, i32_w]
    rfl
  refine pure_ (i := 40) (N := some 55) (v := ?_) (a' := ?_) (mk 63 1466015503701) rfl rfl (any_of HT_.out (by kernel_rfl)) (fun _ _ _ h => h) (Or.inl ⟨by rfl, ?_⟩) ?_ ?_
  rotate_left
  · intro w'
    go_simp
    with_reducible rfl
  rotate_left
  · simp only [Act.put, setIfInBounds_toArray, set_cons_zero, set_cons_succ, i64_w, i32_w]
    rfl
  refine pure_ (i := 42) (N := some 57) (v := ?_) (a' := ?_) (mk 63 5864062014805) rfl rfl (any_of HT_.out (by kernel_rfl)) (fun _ _ _ h => h) (Or.inl ⟨by rfl, ?_⟩) ?_ ?_
  rotate_left
  · intro w'
    go_simp
    with_reducible rfl
  rotate_left
  · simp only [Act.put, setIfInBounds_toArray, set_cons_zero, set_cons_succ, i64_w, i32_w]
    rfl
  refine pure_ (i := 44) (N := some 59) (v := ?_) (a' := ?_) (mk 63 23456248059221) rfl rfl (any_of HT_.out (by kernel_rfl)) (fun _ _ _ h => h) (Or.inl ⟨by rfl, ?_⟩) ?_ ?_
  rotate_left
  · intro w'
    go_simp
    with_reducible rfl
  rotate_left
  · simp only [Act.put, setIfInBounds_toArray, set_cons_zero, set_cons_succ, i64_w, i32_w]
    rfl
  refine pure_ (i := 46) (N := some 61) (v := ?_) (a' := ?_) (mk 63 93824992236885) rfl rfl (any_of HT_.out (by kernel_rfl)) (fun _ _ _ h => h) (Or.inl ⟨by rfl, ?_⟩) ?_ ?_
  rotate_left
  · intro w'
    go_simp
    with_reducible rfl
  rotate_left
  · simp only [Act.put, setIfInBounds_toArray, set_cons_zero, set_cons_succ, i64_w, i32_w]
    rfl
  refine pure_ (i := 48) (N := some 63) (v := ?_) (a' := ?_) (mk 63 375299968947541) rfl rfl (any_of HT_.out (by kernel_rfl)) (fun _ _ _ h => h) (Or.inl ⟨by rfl, ?_⟩) ?_ ?_
  rotate_left
  · intro w'
    go_simp
    with_reducible rfl
  rotate_left
  · simp only [Act.put, setIfInBounds_toArray, set_cons_zero, set_cons_succ, i64_w, i32_w]
    rfl
  refine pure_ (i := 50) (N := some 65) (v := ?_) (a' := ?_) (mk 63 1501199875790165) rfl rfl (any_of HT_.out (by kernel_rfl)) (fun _ _ _ h => h) (Or.inl ⟨by rfl, ?_⟩) ?_ ?_
  rotate_left
  · intro w'
    go_simp
    with_reducible rfl
  rotate_left
  · simp only [Act.put, setIfInBounds_toArray, set_cons_zero, set_cons_succ, i64_w, i32_w]
    rfl
  refine pure_ (i := 52) (N := some 67) (v := ?_) (a' := ?_) (mk 63 6004799503160661) rfl rfl (any_of HT_.out (by kernel_rfl)) (fun _ _ _ h => h) (Or.inl ⟨by rfl, ?_⟩) ?_ ?_
  rotate_left
  · intro w'
    go_simp
    with_reducible rfl
  rotate_left
  · simp only [Act.put, setIfInBounds_toArray, set_cons_zero, set_cons_succ, i64_w, i32_w]
    rfl
  refine pure_ (i := 54) (N := some 69) (v := ?_) (a' := ?_) (mk 63 24019198012642645) rfl rfl (any_of HT_.out (by kernel_rfl)) (fun _ _ _ h => h) (Or.inl ⟨by rfl, ?_⟩) ?_ ?_
  rotate_left
  · intro w'
    go_simp
    with_reducible rfl
  rotate_left
  · simp only [Act.put, setIfInBounds_toArray, set_cons_zero, set_cons_succ, i64_w, i32_w]
    rfl
  refine pure_ (i := 56) (N := some 71) (v := ?_) (a' := ?_) (mk 63 96076792050570581) rfl rfl (any_of HT_.out (by kernel_rfl)) (fun _ _ _ h => h) (Or.inl ⟨by rfl, ?_⟩) ?_ ?_
  rotate_left
  · intro w'
    go_simp
    with_reducible rfl
  rotate_left
  · simp only [Act.put, setIfInBounds_toArray, set_cons_zero, set_cons_succ, i64_w, i32_w]
    rfl
  refine pure_ (i := 58) (N := some 73) (v := ?_) (a' := ?_) (mk 63 384307168202282325) rfl rfl (any_of HT_.out (by kernel_rfl)) (fun _ _ _ h => h) (Or.inl ⟨by rfl, ?_⟩) ?_ ?_
  rotate_left
  · intro w'
    go_simp
    with_reducible rfl
  rotate_left
  · simp only [Act.put, setIfInBounds_toArray, set_cons_zero, set_cons_succ, i64_w, i32_w]
    rfl
  refine take_ (i := 1) (N := some 16) (v := ?_) (a' := ?_) (mk 63 384307168202282327) rfl rfl (take_ofW HT_.out HW_.out (by kernel_rfl)) (fun _ _ _ h => h) (Or.inl ⟨by rfl, ?_⟩) hHeld ?_ ?_
  rotate_left
  · rintro w' ⟨s0, s1, s2, s3, s4, s5, s6, s7, s8, s9, s10, s11, s12, s13, s14, s15, s16, s17, s18, s19⟩
    go_simp
    with_reducible rfl
  rotate_left
  · simp only [Act.put, setIfInBounds_toArray, set_cons_zero, set_cons_succ, i64_w, i32_w]
    rfl
  refine take_ (i := 3) (N := some 18) (v := ?_) (a' := ?_) (mk 63 384307168202282335) rfl rfl (take_ofW HT_.out HW_.out (by kernel_rfl)) (fun _ _ _ h => h) (Or.inl ⟨by rfl, ?_⟩) hHeld ?_ ?_
  rotate_left
  · rintro w' ⟨s0, s1, s2, s3, s4, s5, s6, s7, s8, s9, s10, s11, s12, s13, s14, s15, s16, s17, s18, s19⟩
    go_simp
    with_reducible rfl
  rotate_left
  · simp only [Act.put, setIfInBounds_toArray, set_cons_zero, set_cons_succ, i64_w, i32_w]
    rfl
  refine take_ (i := 7) (N := some 22) (v := ?_) (a' := ?_) (mk 63 384307168202282463) rfl rfl (take_ofW HT_.out HW_.out (by kernel_rfl)) (fun _ _ _ h => h) (Or.inl ⟨by rfl, ?_⟩) hHeld ?_ ?_
  rotate_left
  · rintro w' ⟨s0, s1, s2, s3, s4, s5, s6, s7, s8, s9, s10, s11, s12, s13, s14, s15, s16, s17, s18, s19⟩
    go_simp
    with_reducible rfl
  rotate_left
  · simp only [Act.put, setIfInBounds_toArray, set_cons_zero, set_cons_succ, i64_w, i32_w]
    rfl
  refine take_ (i := 9) (N := some 24) (v := ?_) (a' := ?_) (mk 63 384307168202282975) rfl rfl (take_ofW HT_.out HW_.out (by kernel_rfl)) (fun _ _ _ h => h) (Or.inl ⟨by rfl, ?_⟩) hHeld ?_ ?_
  rotate_left
  · rintro w' ⟨s0, s1, s2, s3, s4, s5, s6, s7, s8, s9, s10, s11, s12, s13, s14, s15, s16, s17, s18, s19⟩
    go_simp
    with_reducible rfl
  rotate_left
  · simp only [Act.put, setIfInBounds_toArray, set_cons_zero, set_cons_succ, i64_w, i32_w]
    rfl
  refine take_ (i := 13) (N := some 28) (v := ?_) (a' := ?_) (mk 63 384307168202291167) rfl rfl (take_ofW HT_.out HW_.out (by kernel_rfl)) (fun _ _ _ h => h) (Or.inl ⟨by rfl, ?_⟩) hHeld ?_ ?_
  rotate_left
  · rintro w' ⟨s0, s1, s2, s3, s4, s5, s6, s7, s8, s9, s10, s11, s12, s13, s14, s15, s16, s17, s18, s19⟩
    go_simp
    with_reducible rfl
  rotate_left
  · simp only [Act.put, setIfInBounds_toArray, set_cons_zero, set_cons_succ, i64_w, i32_w]
    rfl
  refine take_ (i := 15) (N := some 30) (v := ?_) (a' := ?_) (mk 63 384307168202323935) rfl rfl (take_ofW HT_.out HW_.out (by kernel_rfl)) (fun _ _ _ h => h) (Or.inl ⟨by rfl, ?_⟩) hHeld ?_ ?_
  rotate_left
  · rintro w' ⟨s0, s1, s2, s3, s4, s5, s6, s7, s8, s9, s10, s11, s12, s13, s14, s15, s16, s17, s18, s19⟩
    go_simp
    with_reducible rfl
  rotate_left
  · simp only [Act.put, setIfInBounds_toArray, set_cons_zero, set_cons_succ, i64_w, i32_w]
    rfl
  refine take_ (i := 19) (N := some 34) (v := ?_) (a' := ?_) (mk 63 384307168202848223) rfl rfl (take_ofW HT_.out HW_.out (by kernel_rfl)) (fun _ _ _ h => h) (Or.inl ⟨by rfl, ?_⟩) hHeld ?_ ?_
  rotate_left
  · rintro w' ⟨s0, s1, s2, s3, s4, s5, s6, s7, s8, s9, s10, s11, s12, s13, s14, s15, s16, s17, s18, s19⟩
    go_simp
    with_reducible rfl
  rotate_left
  · simp only [Act.put, setIfInBounds_toArray, set_cons_zero, set_cons_succ, i64_w, i32_w]
    rfl
  refine take_ (i := 21) (N := some 36) (v := ?_) (a' := ?_) (mk 63 384307168204945375) rfl rfl (take_ofW HT_.out HW_.out (by kernel_rfl)) (fun _ _ _ h => h) (Or.inl ⟨by rfl, ?_⟩) hHeld ?_ ?_
  rotate_left
  · rintro w' ⟨s0, s1, s2, s3, s4, s5, s6, s7, s8, s9, s10, s11, s12, s13, s14, s15, s16, s17, s18, s19⟩
    go_simp
    with_reducible rfl
  rotate_left
  · simp only [Act.put, setIfInBounds_toArray, set_cons_zero, set_cons_succ, i64_w, i32_w]
    rfl
  refine take_ (i := 25) (N := some 40) (v := ?_) (a' := ?_) (mk 63 384307168238499807) rfl rfl (take_ofW HT_.out HW_.out (by kernel_rfl)) (fun _ _ _ h => h) (Or.inl ⟨by rfl, ?_⟩) hHeld ?_ ?_
  rotate_left
  · rintro w' ⟨s0, s1, s2, s3, s4, s5, s6, s7, s8, s9, s10, s11, s12, s13, s14, s15, s16, s17, s18, s19⟩
    go_simp
    with_reducible rfl
  rotate_left
  · simp only [Act.put, setIfInBounds_toArray, set_cons_zero, set_cons_succ, i64_w, i32_w]
    rfl
  refine take_ (i := 27) (N := some 42) (v := ?_) (a' := ?_) (mk 63 384307168372717535) rfl rfl (take_ofW HT_.out HW_.out (by kernel_rfl)) (fun _ _ _ h => h) (Or.inl ⟨by rfl, ?_⟩) hHeld ?_ ?_
  rotate_left
  · rintro w' ⟨s0, s1, s2, s3, s4, s5, s6, s7, s8, s9, s10, s11, s12, s13, s14, s15, s16, s17, s18, s19⟩
    go_simp
    with_reducible rfl
  rotate_left
  · simp only [Act.put, setIfInBounds_toArray, set_cons_zero, set_cons_succ, i64_w, i32_w]
    rfl
  refine take_ (i := 31) (N := some 46) (v := ?_) (a' := ?_) (mk 63 384307170520201183) rfl rfl (take_ofW HT_.out HW_.out (by kernel_rfl)) (fun _ _ _ h => h) (Or.inl ⟨by rfl, ?_⟩) hHeld ?_ ?_
  rotate_left
  · rintro w' ⟨s0, s1, s2, s3, s4, s5, s6, s7, s8, s9, s10, s11, s12, s13, s14, s15, s16, s17, s18, s19⟩
    go_simp
    with_reducible rfl
  rotate_left
  · simp only [Act.put, setIfInBounds_toArray, set_cons_zero, set_cons_succ, i64_w, i32_w]
    rfl
  refine take_ (i := 33) (N := some 48) (v := ?_) (a' := ?_) (mk 63 384307179110135775) rfl rfl (take_ofW HT_.out HW_.out (by kernel_rfl)) (fun _ _ _ h => h) (Or.inl ⟨by rfl, ?_⟩) hHeld ?_ ?_
  rotate_left
  · rintro w' ⟨s0, s1, s2, s3, s4, s5, s6, s7, s8, s9, s10, s11, s12, s13, s14, s15, s16, s17, s18, s19⟩
    go_simp
    with_reducible rfl
  rotate_left
  · simp only [Act.put, setIfInBounds_toArray, set_cons_zero, set_cons_succ, i64_w, i32_w]
    rfl
  refine take_ (i := 37) (N := some 52) (v := ?_) (a' := ?_) (mk 63 384307316549089247) rfl rfl (take_ofW HT_.out HW_.out (by kernel_rfl)) (fun _ _ _ h => h) (Or.inl ⟨by rfl, ?_⟩) hHeld ?_ ?_
  rotate_left
  · rintro w' ⟨s0, s1, s2, s3, s4, s5, s6, s7, s8, s9, s10, s11, s12, s13, s14, s15, s16, s17, s18, s19⟩
    go_simp
    with_reducible rfl
  rotate_left
  · simp only [Act.put, setIfInBounds_toArray, set_cons_zero, set_cons_succ, i64_w, i32_w]
    rfl
  refine take_ (i := 39) (N := some 54) (v := ?_) (a' := ?_) (mk 63 384307866304903135) rfl rfl (take_ofW HT_.out HW_.out (by kernel_rfl)) (fun _ _ _ h => h) (Or.inl ⟨by rfl, ?_⟩) hHeld ?_ ?_
  rotate_left
  · rintro w' ⟨s0, s1, s2, s3, s4, s5, s6, s7, s8, s9, s10, s11, s12, s13, s14, s15, s16, s17, s18, s19⟩
    go_simp
    with_reducible rfl
  rotate_left
  · simp only [Act.put, setIfInBounds_toArray, set_cons_zero, set_cons_succ, i64_w, i32_w]
    rfl
  refine take_ (i := 43) (N := some 58) (v := ?_) (a' := ?_) (mk 63 384316662397925343) rfl rfl (take_ofW HT_.out HW_.out (by kernel_rfl)) (fun _ _ _ h => h) (Or.inl ⟨by rfl, ?_⟩) hHeld ?_ ?_
  rotate_left
  · rintro w' ⟨s0, s1, s2, s3, s4, s5, s6, s7, s8, s9, s10, s11, s12, s13, s14, s15, s16, s17, s18, s19⟩
    go_simp
    with_reducible rfl
  rotate_left
  · simp only [Act.put, setIfInBounds_toArray, set_cons_zero, set_cons_succ, i64_w, i32_w]
    rfl
  refine take_ (i := 45) (N := some 60) (v := ?_) (a' := ?_) (mk 63 384351846770014175) rfl rfl (take_ofW HT_.out HW_.out (by kernel_rfl)) (fun _ _ _ h => h) (Or.inl ⟨by rfl, ?_⟩) hHeld ?_ ?_
  rotate_left
  · rintro w' ⟨s0, s1, s2, s3, s4, s5, s6, s7, s8, s9, s10, s11, s12, s13, s14, s15, s16, s17, s18, s19⟩
    go_simp
    with_reducible rfl
  rotate_left
  · simp only [Act.put, setIfInBounds_toArray, set_cons_zero, set_cons_succ, i64_w, i32_w]
    rfl
  refine take_ (i := 49) (N := some 64) (v := ?_) (a' := ?_) (mk 63 384914796723435487) rfl rfl (take_ofW HT_.out HW_.out (by kernel_rfl)) (fun _ _ _ h => h) (Or.inl ⟨by rfl, ?_⟩) hHeld ?_ ?_
  rotate_left
  · rintro w' ⟨s0, s1, s2, s3, s4, s5, s6, s7, s8, s9, s10, s11, s12, s13, s14, s15, s16, s17, s18, s19⟩
    go_simp
    with_reducible rfl
  rotate_left
  · simp only [Act.put, setIfInBounds_toArray, set_cons_zero, set_cons_succ, i64_w, i32_w]
    rfl
  refine take_ (i := 51) (N := some 66) (v := ?_) (a' := ?_) (mk 63 387166596537120735) rfl rfl (take_ofW HT_.out HW_.out (by kernel_rfl)) (fun _ _ _ h => h) (Or.inl ⟨by rfl, ?_⟩) hHeld ?_ ?_
  rotate_left
  · rintro w' ⟨s0, s1, s2, s3, s4, s5, s6, s7, s8, s9, s10, s11, s12, s13, s14, s15, s16, s17, s18, s19⟩
    go_simp
    with_reducible rfl
  rotate_left
  · simp only [Act.put, setIfInBounds_toArray, set_cons_zero, set_cons_succ, i64_w, i32_w]
    rfl
  refine take_ (i := 55) (N := some 70) (v := ?_) (a' := ?_) (mk 63 423195393556084703) rfl rfl (take_ofW HT_.out HW_.out (by kernel_rfl)) (fun _ _ _ h => h) (Or.inl ⟨by rfl, ?_⟩) hHeld ?_ ?_
  rotate_left
  · rintro w' ⟨s0, s1, s2, s3, s4, s5, s6, s7, s8, s9, s10, s11, s12, s13, s14, s15, s16, s17, s18, s19⟩
    go_simp
    with_reducible rfl
  rotate_left
  · simp only [Act.put, setIfInBounds_toArray, set_cons_zero, set_cons_succ, i64_w, i32_w]
    rfl
  refine take_ (i := 57) (N := some 72) (v := ?_) (a' := ?_) (mk 63 567310581631940575) rfl rfl (take_ofW HT_.out HW_.out (by kernel_rfl)) (fun _ _ _ h => h) (Or.inl ⟨by rfl, ?_⟩) hHeld ?_ ?_
  rotate_left
  · rintro w' ⟨s0, s1, s2, s3, s4, s5, s6, s7, s8, s9, s10, s11, s12, s13, s14, s15, s16, s17, s18, s19⟩
    go_simp
    with_reducible rfl
  rotate_left
  · simp only [Act.put, setIfInBounds_toArray, set_cons_zero, set_cons_succ, i64_w, i32_w]
    rfl
  refine join_ (σ := Nat) 1 (mk 63 4611686018427387903) (fun s_ => [(20, .int .i64 t175), (26, .int .i64 t176), (32, .int .i64 t177), (38, .int .i64 t178), (44, .int .i64 t179), (50, .int .i64 t180), (56, .int .i64 t181), (62, .int .i64 t182), (68, .int .i64 t183), (74, .int .i64 t184), (12, .pointer (some ⟨s_, 0, none⟩)), (75, .agg #[.int .i64 t175, .int .i64 t176, .int .i64 t177, .int .i64 t178, .int .i64 t179, .int .i64 t180, .int .i64 t181, .int .i64 t182, .int .i64 t183, .int .i64 t184])]) (fun s_ w' => (w'.cell? ⟨gb170, 0, none⟩ = some (.int .i64 a0_0) ∧ w'.cell? ⟨gb170, 1, none⟩ = some (.int .i64 a0_1) ∧ w'.cell? ⟨gb170, 2, none⟩ = some (.int .i64 a0_2) ∧ w'.cell? ⟨gb170, 3, none⟩ = some (.int .i64 a0_3) ∧ w'.cell? ⟨gb170, 4, none⟩ = some (.int .i64 a0_4) ∧ w'.cell? ⟨gb170, 5, none⟩ = some (.int .i64 a0_5) ∧ w'.cell? ⟨gb170, 6, none⟩ = some (.int .i64 a0_6) ∧ w'.cell? ⟨gb170, 7, none⟩ = some (.int .i64 a0_7) ∧ w'.cell? ⟨gb170, 8, none⟩ = some (.int .i64 a0_8) ∧ w'.cell? ⟨gb170, 9, none⟩ = some (.int .i64 a0_9) ∧ w'.cell? ⟨gb171, 0, none⟩ = some (.int .i64 a1_0) ∧ w'.cell? ⟨gb171, 1, none⟩ = some (.int .i64 a1_1) ∧ w'.cell? ⟨gb171, 2, none⟩ = some (.int .i64 a1_2) ∧ w'.cell? ⟨gb171, 3, none⟩ = some (.int .i64 a1_3) ∧ w'.cell? ⟨gb171, 4, none⟩ = some (.int .i64 a1_4) ∧ w'.cell? ⟨gb171, 5, none⟩ = some (.int .i64 a1_5) ∧ w'.cell? ⟨gb171, 6, none⟩ = some (.int .i64 a1_6) ∧ w'.cell? ⟨gb171, 7, none⟩ = some (.int .i64 a1_7) ∧ w'.cell? ⟨gb171, 8, none⟩ = some (.int .i64 a1_8) ∧ w'.cell? ⟨gb171, 9, none⟩ = some (.int .i64 a1_9)) ∧ (w'.heap[gb170]? = some (.cells #[.int .i64 a0_0, .int .i64 a0_1, .int .i64 a0_2, .int .i64 a0_3, .int .i64 a0_4, .int .i64 a0_5, .int .i64 a0_6, .int .i64 a0_7, .int .i64 a0_8, .int .i64 a0_9] 23 (0, 0))) ∧ (w'.heap[gb171]? = some (.cells #[.int .i64 a1_0, .int .i64 a1_1, .int .i64 a1_2, .int .i64 a1_3, .int .i64 a1_4, .int .i64 a1_5, .int .i64 a1_6, .int .i64 a1_7, .int .i64 a1_8, .int .i64 a1_9] 23 (0, 0))) ∧ (w'.heap[gb172]? = some (.cells #[.int .i64 a2_0, .int .i64 a2_1] 39 (0, 0))) ∧ (w'.heap[gb173]? = some (.cells #[.int .i64 a3_0, .int .i64 a3_1] 39 (0, 0))) ∧ (w'.heap[s_]? = some (.cells #[.int .i64 0, .int .i64 0, .int .i64 0, .int .i64 0, .int .i64 0, .int .i64 0, .int .i64 0, .int .i64 0, .int .i64 0, .int .i64 0] 23 (0, 0))) ∧ (w.heap.size ≤ s_) ∧ (w.heap.size ≤ s_) ∧ (gb170 ≠ s_) ∧ (s_ ≠ gb170) ∧ (gb171 ≠ s_) ∧ (s_ ≠ gb171) ∧ (gb172 ≠ s_) ∧ (s_ ≠ gb172) ∧ (gb173 ≠ s_) ∧ (s_ ≠ gb173) ∧ (Below w.heap.size w w')) ?_ ?_
  rotate_left
  · intro hJ5_11_17_23_29_35_41_47_53_59_61
    refine join_ (σ := Unit) 2 (mk 63 2305843009213693951) (fun s_ => [(20, .int .i64 t175), (26, .int .i64 t176), (32, .int .i64 t177), (38, .int .i64 t178), (44, .int .i64 t179), (50, .int .i64 t180), (56, .int .i64 t181), (62, .int .i64 t182), (68, .int .i64 t183), (74, .int .i64 t184), (75, .agg #[.int .i64 t175, .int .i64 t176, .int .i64 t177, .int .i64 t178, .int .i64 t179, .int .i64 t180, .int .i64 t181, .int .i64 t182, .int .i64 t183, .int .i64 t184])]) (fun s_ w' => (w'.cell? ⟨gb170, 0, none⟩ = some (.int .i64 a0_0) ∧ w'.cell? ⟨gb170, 1, none⟩ = some (.int .i64 a0_1) ∧ w'.cell? ⟨gb170, 2, none⟩ = some (.int .i64 a0_2) ∧ w'.cell? ⟨gb170, 3, none⟩ = some (.int .i64 a0_3) ∧ w'.cell? ⟨gb170, 4, none⟩ = some (.int .i64 a0_4) ∧ w'.cell? ⟨gb170, 5, none⟩ = some (.int .i64 a0_5) ∧ w'.cell? ⟨gb170, 6, none⟩ = some (.int .i64 a0_6) ∧ w'.cell? ⟨gb170, 7, none⟩ = some (.int .i64 a0_7) ∧ w'.cell? ⟨gb170, 8, none⟩ = some (.int .i64 a0_8) ∧ w'.cell? ⟨gb170, 9, none⟩ = some (.int .i64 a0_9) ∧ w'.cell? ⟨gb171, 0, none⟩ = some (.int .i64 a1_0) ∧ w'.cell? ⟨gb171, 1, none⟩ = some (.int .i64 a1_1) ∧ w'.cell? ⟨gb171, 2, none⟩ = some (.int .i64 a1_2) ∧ w'.cell? ⟨gb171, 3, none⟩ = some (.int .i64 a1_3) ∧ w'.cell? ⟨gb171, 4, none⟩ = some (.int .i64 a1_4) ∧ w'.cell? ⟨gb171, 5, none⟩ = some (.int .i64 a1_5) ∧ w'.cell? ⟨gb171, 6, none⟩ = some (.int .i64 a1_6) ∧ w'.cell? ⟨gb171, 7, none⟩ = some (.int .i64 a1_7) ∧ w'.cell? ⟨gb171, 8, none⟩ = some (.int .i64 a1_8) ∧ w'.cell? ⟨gb171, 9, none⟩ = some (.int .i64 a1_9)) ∧ (w'.heap[gb170]? = some (.cells #[.int .i64 a0_0, .int .i64 a0_1, .int .i64 a0_2, .int .i64 a0_3, .int .i64 a0_4, .int .i64 a0_5, .int .i64 a0_6, .int .i64 a0_7, .int .i64 a0_8, .int .i64 a0_9] 23 (0, 0))) ∧ (w'.heap[gb171]? = some (.cells #[.int .i64 a1_0, .int .i64 a1_1, .int .i64 a1_2, .int .i64 a1_3, .int .i64 a1_4, .int .i64 a1_5, .int .i64 a1_6, .int .i64 a1_7, .int .i64 a1_8, .int .i64 a1_9] 23 (0, 0))) ∧ (w'.heap[gb172]? = some (.cells #[.int .i64 a2_0, .int .i64 a2_1] 39 (0, 0))) ∧ (w'.heap[gb173]? = some (.cells #[.int .i64 a3_0, .int .i64 a3_1] 39 (0, 0))) ∧ (Below w.heap.size w w')) ?_ ?_
    rotate_left
    · intro hJ5_11_17_23_29_35_41_47_53_59
      refine join_ (σ := Nat) 3 (mk 63 2882303761517117439) (fun s_ => [(20, .int .i64 t175), (26, .int .i64 t176), (32, .int .i64 t177), (38, .int .i64 t178), (44, .int .i64 t179), (50, .int .i64 t180), (56, .int .i64 t181), (62, .int .i64 t182), (68, .int .i64 t183), (12, .pointer (some ⟨s_, 0, none⟩))]) (fun s_ w' => (w'.cell? ⟨gb170, 0, none⟩ = some (.int .i64 a0_0) ∧ w'.cell? ⟨gb170, 1, none⟩ = some (.int .i64 a0_1) ∧ w'.cell? ⟨gb170, 2, none⟩ = some (.int .i64 a0_2) ∧ w'.cell? ⟨gb170, 3, none⟩ = some (.int .i64 a0_3) ∧ w'.cell? ⟨gb170, 4, none⟩ = some (.int .i64 a0_4) ∧ w'.cell? ⟨gb170, 5, none⟩ = some (.int .i64 a0_5) ∧ w'.cell? ⟨gb170, 6, none⟩ = some (.int .i64 a0_6) ∧ w'.cell? ⟨gb170, 7, none⟩ = some (.int .i64 a0_7) ∧ w'.cell? ⟨gb170, 8, none⟩ = some (.int .i64 a0_8) ∧ w'.cell? ⟨gb170, 9, none⟩ = some (.int .i64 a0_9) ∧ w'.cell? ⟨gb171, 0, none⟩ = some (.int .i64 a1_0) ∧ w'.cell? ⟨gb171, 1, none⟩ = some (.int .i64 a1_1) ∧ w'.cell? ⟨gb171, 2, none⟩ = some (.int .i64 a1_2) ∧ w'.cell? ⟨gb171, 3, none⟩ = some (.int .i64 a1_3) ∧ w'.cell? ⟨gb171, 4, none⟩ = some (.int .i64 a1_4) ∧ w'.cell? ⟨gb171, 5, none⟩ = some (.int .i64 a1_5) ∧ w'.cell? ⟨gb171, 6, none⟩ = some (.int .i64 a1_6) ∧ w'.cell? ⟨gb171, 7, none⟩ = some (.int .i64 a1_7) ∧ w'.cell? ⟨gb171, 8, none⟩ = some (.int .i64 a1_8) ∧ w'.cell? ⟨gb171, 9, none⟩ = some (.int .i64 a1_9)) ∧ (w'.heap[gb170]? = some (.cells #[.int .i64 a0_0, .int .i64 a0_1, .int .i64 a0_2, .int .i64 a0_3, .int .i64 a0_4, .int .i64 a0_5, .int .i64 a0_6, .int .i64 a0_7, .int .i64 a0_8, .int .i64 a0_9] 23 (0, 0))) ∧ (w'.heap[gb171]? = some (.cells #[.int .i64 a1_0, .int .i64 a1_1, .int .i64 a1_2, .int .i64 a1_3, .int .i64 a1_4, .int .i64 a1_5, .int .i64 a1_6, .int .i64 a1_7, .int .i64 a1_8, .int .i64 a1_9] 23 (0, 0))) ∧ (w'.heap[gb172]? = some (.cells #[.int .i64 a2_0, .int .i64 a2_1] 39 (0, 0))) ∧ (w'.heap[gb173]? = some (.cells #[.int .i64 a3_0, .int .i64 a3_1] 39 (0, 0))) ∧ (w'.heap[s_]? = some (.cells #[.int .i64 0, .int .i64 0, .int .i64 0, .int .i64 0, .int .i64 0, .int .i64 0, .int .i64 0, .int .i64 0, .int .i64 0, .int .i64 0] 23 (0, 0))) ∧ (w.heap.size ≤ s_) ∧ (w.heap.size ≤ s_) ∧ (gb170 ≠ s_) ∧ (s_ ≠ gb170) ∧ (gb171 ≠ s_) ∧ (s_ ≠ gb171) ∧ (gb172 ≠ s_) ∧ (s_ ≠ gb172) ∧ (gb173 ≠ s_) ∧ (s_ ≠ gb173) ∧ (Below w.heap.size w w')) ?_ ?_
      rotate_left
      · intro hJ5_11_17_23_29_35_41_47_53_61
        refine join_ (σ := Unit) 4 (mk 63 576460752303423487) (fun s_ => [(20, .int .i64 t175), (26, .int .i64 t176), (32, .int .i64 t177), (38, .int .i64 t178), (44, .int .i64 t179), (50, .int .i64 t180), (56, .int .i64 t181), (62, .int .i64 t182), (68, .int .i64 t183)]) (fun s_ w' => (w'.cell? ⟨gb170, 0, none⟩ = some (.int .i64 a0_0) ∧ w'.cell? ⟨gb170, 1, none⟩ = some (.int .i64 a0_1) ∧ w'.cell? ⟨gb170, 2, none⟩ = some (.int .i64 a0_2) ∧ w'.cell? ⟨gb170, 3, none⟩ = some (.int .i64 a0_3) ∧ w'.cell? ⟨gb170, 4, none⟩ = some (.int .i64 a0_4) ∧ w'.cell? ⟨gb170, 5, none⟩ = some (.int .i64 a0_5) ∧ w'.cell? ⟨gb170, 6, none⟩ = some (.int .i64 a0_6) ∧ w'.cell? ⟨gb170, 7, none⟩ = some (.int .i64 a0_7) ∧ w'.cell? ⟨gb170, 8, none⟩ = some (.int .i64 a0_8) ∧ w'.cell? ⟨gb170, 9, none⟩ = some (.int .i64 a0_9) ∧ w'.cell? ⟨gb171, 0, none⟩ = some (.int .i64 a1_0) ∧ w'.cell? ⟨gb171, 1, none⟩ = some (.int .i64 a1_1) ∧ w'.cell? ⟨gb171, 2, none⟩ = some (.int .i64 a1_2) ∧ w'.cell? ⟨gb171, 3, none⟩ = some (.int .i64 a1_3) ∧ w'.cell? ⟨gb171, 4, none⟩ = some (.int .i64 a1_4) ∧ w'.cell? ⟨gb171, 5, none⟩ = some (.int .i64 a1_5) ∧ w'.cell? ⟨gb171, 6, none⟩ = some (.int .i64 a1_6) ∧ w'.cell? ⟨gb171, 7, none⟩ = some (.int .i64 a1_7) ∧ w'.cell? ⟨gb171, 8, none⟩ = some (.int .i64 a1_8) ∧ w'.cell? ⟨gb171, 9, none⟩ = some (.int .i64 a1_9)) ∧ (w'.heap[gb170]? = some (.cells #[.int .i64 a0_0, .int .i64 a0_1, .int .i64 a0_2, .int .i64 a0_3, .int .i64 a0_4, .int .i64 a0_5, .int .i64 a0_6, .int .i64 a0_7, .int .i64 a0_8, .int .i64 a0_9] 23 (0, 0))) ∧ (w'.heap[gb171]? = some (.cells #[.int .i64 a1_0, .int .i64 a1_1, .int .i64 a1_2, .int .i64 a1_3, .int .i64 a1_4, .int .i64 a1_5, .int .i64 a1_6, .int .i64 a1_7, .int .i64 a1_8, .int .i64 a1_9] 23 (0, 0))) ∧ (w'.heap[gb172]? = some (.cells #[.int .i64 a2_0, .int .i64 a2_1] 39 (0, 0))) ∧ (w'.heap[gb173]? = some (.cells #[.int .i64 a3_0, .int .i64 a3_1] 39 (0, 0))) ∧ (Below w.heap.size w w')) ?_ ?_
        rotate_left
        · intro hJ5_11_17_23_29_35_41_47_53
          refine join_ (σ := Nat) 4 (mk 63 2873296562262376447) (fun s_ => [(20, .int .i64 t175), (26, .int .i64 t176), (32, .int .i64 t177), (38, .int .i64 t178), (44, .int .i64 t179), (50, .int .i64 t180), (56, .int .i64 t181), (62, .int .i64 t182), (12, .pointer (some ⟨s_, 0, none⟩))]) (fun s_ w' => (w'.cell? ⟨gb170, 0, none⟩ = some (.int .i64 a0_0) ∧ w'.cell? ⟨gb170, 1, none⟩ = some (.int .i64 a0_1) ∧ w'.cell? ⟨gb170, 2, none⟩ = some (.int .i64 a0_2) ∧ w'.cell? ⟨gb170, 3, none⟩ = some (.int .i64 a0_3) ∧ w'.cell? ⟨gb170, 4, none⟩ = some (.int .i64 a0_4) ∧ w'.cell? ⟨gb170, 5, none⟩ = some (.int .i64 a0_5) ∧ w'.cell? ⟨gb170, 6, none⟩ = some (.int .i64 a0_6) ∧ w'.cell? ⟨gb170, 7, none⟩ = some (.int .i64 a0_7) ∧ w'.cell? ⟨gb170, 8, none⟩ = some (.int .i64 a0_8) ∧ w'.cell? ⟨gb170, 9, none⟩ = some (.int .i64 a0_9) ∧ w'.cell? ⟨gb171, 0, none⟩ = some (.int .i64 a1_0) ∧ w'.cell? ⟨gb171, 1, none⟩ = some (.int .i64 a1_1) ∧ w'.cell? ⟨gb171, 2, none⟩ = some (.int .i64 a1_2) ∧ w'.cell? ⟨gb171, 3, none⟩ = some (.int .i64 a1_3) ∧ w'.cell? ⟨gb171, 4, none⟩ = some (.int .i64 a1_4) ∧ w'.cell? ⟨gb171, 5, none⟩ = some (.int .i64 a1_5) ∧ w'.cell? ⟨gb171, 6, none⟩ = some (.int .i64 a1_6) ∧ w'.cell? ⟨gb171, 7, none⟩ = some (.int .i64 a1_7) ∧ w'.cell? ⟨gb171, 8, none⟩ = some (.int .i64 a1_8) ∧ w'.cell? ⟨gb171, 9, none⟩ = some (.int .i64 a1_9)) ∧ (w'.heap[gb170]? = some (.cells #[.int .i64 a0_0, .int .i64 a0_1, .int .i64 a0_2, .int .i64 a0_3, .int .i64 a0_4, .int .i64 a0_5, .int .i64 a0_6, .int .i64 a0_7, .int .i64 a0_8, .int .i64 a0_9] 23 (0, 0))) ∧ (w'.heap[gb171]? = some (.cells #[.int .i64 a1_0, .int .i64 a1_1, .int .i64 a1_2, .int .i64 a1_3, .int .i64 a1_4, .int .i64 a1_5, .int .i64 a1_6, .int .i64 a1_7, .int .i64 a1_8, .int .i64 a1_9] 23 (0, 0))) ∧ (w'.heap[gb172]? = some (.cells #[.int .i64 a2_0, .int .i64 a2_1] 39 (0, 0))) ∧ (w'.heap[gb173]? = some (.cells #[.int .i64 a3_0, .int .i64 a3_1] 39 (0, 0))) ∧ (w'.heap[s_]? = some (.cells #[.int .i64 0, .int .i64 0, .int .i64 0, .int .i64 0, .int .i64 0, .int .i64 0, .int .i64 0, .int .i64 0, .int .i64 0, .int .i64 0] 23 (0, 0))) ∧ (w.heap.size ≤ s_) ∧ (w.heap.size ≤ s_) ∧ (gb170 ≠ s_) ∧ (s_ ≠ gb170) ∧ (gb171 ≠ s_) ∧ (s_ ≠ gb171) ∧ (gb172 ≠ s_) ∧ (s_ ≠ gb172) ∧ (gb173 ≠ s_) ∧ (s_ ≠ gb173) ∧ (Below w.heap.size w w')) ?_ ?_
          rotate_left
          · intro hJ5_11_17_23_29_35_41_47_61
            refine join_ (σ := Unit) 5 (mk 63 567453553048682495) (fun s_ => [(20, .int .i64 t175), (26, .int .i64 t176), (32, .int .i64 t177), (38, .int .i64 t178), (44, .int .i64 t179), (50, .int .i64 t180), (56, .int .i64 t181), (62, .int .i64 t182)]) (fun s_ w' => (w'.cell? ⟨gb170, 0, none⟩ = some (.int .i64 a0_0) ∧ w'.cell? ⟨gb170, 1, none⟩ = some (.int .i64 a0_1) ∧ w'.cell? ⟨gb170, 2, none⟩ = some (.int .i64 a0_2) ∧ w'.cell? ⟨gb170, 3, none⟩ = some (.int .i64 a0_3) ∧ w'.cell? ⟨gb170, 4, none⟩ = some (.int .i64 a0_4) ∧ w'.cell? ⟨gb170, 5, none⟩ = some (.int .i64 a0_5) ∧ w'.cell? ⟨gb170, 6, none⟩ = some (.int .i64 a0_6) ∧ w'.cell? ⟨gb170, 7, none⟩ = some (.int .i64 a0_7) ∧ w'.cell? ⟨gb170, 8, none⟩ = some (.int .i64 a0_8) ∧ w'.cell? ⟨gb170, 9, none⟩ = some (.int .i64 a0_9) ∧ w'.cell? ⟨gb171, 0, none⟩ = some (.int .i64 a1_0) ∧ w'.cell? ⟨gb171, 1, none⟩ = some (.int .i64 a1_1) ∧ w'.cell? ⟨gb171, 2, none⟩ = some (.int .i64 a1_2) ∧ w'.cell? ⟨gb171, 3, none⟩ = some (.int .i64 a1_3) ∧ w'.cell? ⟨gb171, 4, none⟩ = some (.int .i64 a1_4) ∧ w'.cell? ⟨gb171, 5, none⟩ = some (.int .i64 a1_5) ∧ w'.cell? ⟨gb171, 6, none⟩ = some (.int .i64 a1_6) ∧ w'.cell? ⟨gb171, 7, none⟩ = some (.int .i64 a1_7) ∧ w'.cell? ⟨gb171, 8, none⟩ = some (.int .i64 a1_8) ∧ w'.cell? ⟨gb171, 9, none⟩ = some (.int .i64 a1_9)) ∧ (w'.heap[gb170]? = some (.cells #[.int .i64 a0_0, .int .i64 a0_1, .int .i64 a0_2, .int .i64 a0_3, .int .i64 a0_4, .int .i64 a0_5, .int .i64 a0_6, .int .i64 a0_7, .int .i64 a0_8, .int .i64 a0_9] 23 (0, 0))) ∧ (w'.heap[gb171]? = some (.cells #[.int .i64 a1_0, .int .i64 a1_1, .int .i64 a1_2, .int .i64 a1_3, .int .i64 a1_4, .int .i64 a1_5, .int .i64 a1_6, .int .i64 a1_7, .int .i64 a1_8, .int .i64 a1_9] 23 (0, 0))) ∧ (w'.heap[gb172]? = some (.cells #[.int .i64 a2_0, .int .i64 a2_1] 39 (0, 0))) ∧ (w'.heap[gb173]? = some (.cells #[.int .i64 a3_0, .int .i64 a3_1] 39 (0, 0))) ∧ (Below w.heap.size w w')) ?_ ?_
            rotate_left
            · intro hJ5_11_17_23_29_35_41_47
              refine join_ (σ := Nat) 5 (mk 63 2873155824774021119) (fun s_ => [(20, .int .i64 t175), (26, .int .i64 t176), (32, .int .i64 t177), (38, .int .i64 t178), (44, .int .i64 t179), (50, .int .i64 t180), (56, .int .i64 t181), (12, .pointer (some ⟨s_, 0, none⟩))]) (fun s_ w' => (w'.cell? ⟨gb170, 0, none⟩ = some (.int .i64 a0_0) ∧ w'.cell? ⟨gb170, 1, none⟩ = some (.int .i64 a0_1) ∧ w'.cell? ⟨gb170, 2, none⟩ = some (.int .i64 a0_2) ∧ w'.cell? ⟨gb170, 3, none⟩ = some (.int .i64 a0_3) ∧ w'.cell? ⟨gb170, 4, none⟩ = some (.int .i64 a0_4) ∧ w'.cell? ⟨gb170, 5, none⟩ = some (.int .i64 a0_5) ∧ w'.cell? ⟨gb170, 6, none⟩ = some (.int .i64 a0_6) ∧ w'.cell? ⟨gb170, 7, none⟩ = some (.int .i64 a0_7) ∧ w'.cell? ⟨gb170, 8, none⟩ = some (.int .i64 a0_8) ∧ w'.cell? ⟨gb170, 9, none⟩ = some (.int .i64 a0_9) ∧ w'.cell? ⟨gb171, 0, none⟩ = some (.int .i64 a1_0) ∧ w'.cell? ⟨gb171, 1, none⟩ = some (.int .i64 a1_1) ∧ w'.cell? ⟨gb171, 2, none⟩ = some (.int .i64 a1_2) ∧ w'.cell? ⟨gb171, 3, none⟩ = some (.int .i64 a1_3) ∧ w'.cell? ⟨gb171, 4, none⟩ = some (.int .i64 a1_4) ∧ w'.cell? ⟨gb171, 5, none⟩ = some (.int .i64 a1_5) ∧ w'.cell? ⟨gb171, 6, none⟩ = some (.int .i64 a1_6) ∧ w'.cell? ⟨gb171, 7, none⟩ = some (.int .i64 a1_7) ∧ w'.cell? ⟨gb171, 8, none⟩ = some (.int .i64 a1_8) ∧ w'.cell? ⟨gb171, 9, none⟩ = some (.int .i64 a1_9)) ∧ (w'.heap[gb170]? = some (.cells #[.int .i64 a0_0, .int .i64 a0_1, .int .i64 a0_2, .int .i64 a0_3, .int .i64 a0_4, .int .i64 a0_5, .int .i64 a0_6, .int .i64 a0_7, .int .i64 a0_8, .int .i64 a0_9] 23 (0, 0))) ∧ (w'.heap[gb171]? = some (.cells #[.int .i64 a1_0, .int .i64 a1_1, .int .i64 a1_2, .int .i64 a1_3, .int .i64 a1_4, .int .i64 a1_5, .int .i64 a1_6, .int .i64 a1_7, .int .i64 a1_8, .int .i64 a1_9] 23 (0, 0))) ∧ (w'.heap[gb172]? = some (.cells #[.int .i64 a2_0, .int .i64 a2_1] 39 (0, 0))) ∧ (w'.heap[gb173]? = some (.cells #[.int .i64 a3_0, .int .i64 a3_1] 39 (0, 0))) ∧ (w'.heap[s_]? = some (.cells #[.int .i64 0, .int .i64 0, .int .i64 0, .int .i64 0, .int .i64 0, .int .i64 0, .int .i64 0, .int .i64 0, .int .i64 0, .int .i64 0] 23 (0, 0))) ∧ (w.heap.size ≤ s_) ∧ (w.heap.size ≤ s_) ∧ (gb170 ≠ s_) ∧ (s_ ≠ gb170) ∧ (gb171 ≠ s_) ∧ (s_ ≠ gb171) ∧ (gb172 ≠ s_) ∧ (s_ ≠ gb172) ∧ (gb173 ≠ s_) ∧ (s_ ≠ gb173) ∧ (Below w.heap.size w w')) ?_ ?_
              rotate_left
              · intro hJ5_11_17_23_29_35_41_61
                refine join_ (σ := Unit) 6 (mk 63 567312815560327167) (fun s_ => [(20, .int .i64 t175), (26, .int .i64 t176), (32, .int .i64 t177), (38, .int .i64 t178), (44, .int .i64 t179), (50, .int .i64 t180), (56, .int .i64 t181)]) (fun s_ w' => (w'.cell? ⟨gb170, 0, none⟩ = some (.int .i64 a0_0) ∧ w'.cell? ⟨gb170, 1, none⟩ = some (.int .i64 a0_1) ∧ w'.cell? ⟨gb170, 2, none⟩ = some (.int .i64 a0_2) ∧ w'.cell? ⟨gb170, 3, none⟩ = some (.int .i64 a0_3) ∧ w'.cell? ⟨gb170, 4, none⟩ = some (.int .i64 a0_4) ∧ w'.cell? ⟨gb170, 5, none⟩ = some (.int .i64 a0_5) ∧ w'.cell? ⟨gb170, 6, none⟩ = some (.int .i64 a0_6) ∧ w'.cell? ⟨gb170, 7, none⟩ = some (.int .i64 a0_7) ∧ w'.cell? ⟨gb170, 8, none⟩ = some (.int .i64 a0_8) ∧ w'.cell? ⟨gb170, 9, none⟩ = some (.int .i64 a0_9) ∧ w'.cell? ⟨gb171, 0, none⟩ = some (.int .i64 a1_0) ∧ w'.cell? ⟨gb171, 1, none⟩ = some (.int .i64 a1_1) ∧ w'.cell? ⟨gb171, 2, none⟩ = some (.int .i64 a1_2) ∧ w'.cell? ⟨gb171, 3, none⟩ = some (.int .i64 a1_3) ∧ w'.cell? ⟨gb171, 4, none⟩ = some (.int .i64 a1_4) ∧ w'.cell? ⟨gb171, 5, none⟩ = some (.int .i64 a1_5) ∧ w'.cell? ⟨gb171, 6, none⟩ = some (.int .i64 a1_6) ∧ w'.cell? ⟨gb171, 7, none⟩ = some (.int .i64 a1_7) ∧ w'.cell? ⟨gb171, 8, none⟩ = some (.int .i64 a1_8) ∧ w'.cell? ⟨gb171, 9, none⟩ = some (.int .i64 a1_9)) ∧ (w'.heap[gb170]? = some (.cells #[.int .i64 a0_0, .int .i64 a0_1, .int .i64 a0_2, .int .i64 a0_3, .int .i64 a0_4, .int .i64 a0_5, .int .i64 a0_6, .int .i64 a0_7, .int .i64 a0_8, .int .i64 a0_9] 23 (0, 0))) ∧ (w'.heap[gb171]? = some (.cells #[.int .i64 a1_0, .int .i64 a1_1, .int .i64 a1_2, .int .i64 a1_3, .int .i64 a1_4, .int .i64 a1_5, .int .i64 a1_6, .int .i64 a1_7, .int .i64 a1_8, .int .i64 a1_9] 23 (0, 0))) ∧ (w'.heap[gb172]? = some (.cells #[.int .i64 a2_0, .int .i64 a2_1] 39 (0, 0))) ∧ (w'.heap[gb173]? = some (.cells #[.int .i64 a3_0, .int .i64 a3_1] 39 (0, 0))) ∧ (Below w.heap.size w w')) ?_ ?_
                rotate_left
                · intro hJ5_11_17_23_29_35_41
                  refine join_ (σ := Nat) 6 (mk 63 2873153625750765567) (fun s_ => [(20, .int .i64 t175), (26, .int .i64 t176), (32, .int .i64 t177), (38, .int .i64 t178), (44, .int .i64 t179), (50, .int .i64 t180), (12, .pointer (some ⟨s_, 0, none⟩))]) (fun s_ w' => (w'.cell? ⟨gb170, 0, none⟩ = some (.int .i64 a0_0) ∧ w'.cell? ⟨gb170, 1, none⟩ = some (.int .i64 a0_1) ∧ w'.cell? ⟨gb170, 2, none⟩ = some (.int .i64 a0_2) ∧ w'.cell? ⟨gb170, 3, none⟩ = some (.int .i64 a0_3) ∧ w'.cell? ⟨gb170, 4, none⟩ = some (.int .i64 a0_4) ∧ w'.cell? ⟨gb170, 5, none⟩ = some (.int .i64 a0_5) ∧ w'.cell? ⟨gb170, 6, none⟩ = some (.int .i64 a0_6) ∧ w'.cell? ⟨gb170, 7, none⟩ = some (.int .i64 a0_7) ∧ w'.cell? ⟨gb170, 8, none⟩ = some (.int .i64 a0_8) ∧ w'.cell? ⟨gb170, 9, none⟩ = some (.int .i64 a0_9) ∧ w'.cell? ⟨gb171, 0, none⟩ = some (.int .i64 a1_0) ∧ w'.cell? ⟨gb171, 1, none⟩ = some (.int .i64 a1_1) ∧ w'.cell? ⟨gb171, 2, none⟩ = some (.int .i64 a1_2) ∧ w'.cell? ⟨gb171, 3, none⟩ = some (.int .i64 a1_3) ∧ w'.cell? ⟨gb171, 4, none⟩ = some (.int .i64 a1_4) ∧ w'.cell? ⟨gb171, 5, none⟩ = some (.int .i64 a1_5) ∧ w'.cell? ⟨gb171, 6, none⟩ = some (.int .i64 a1_6) ∧ w'.cell? ⟨gb171, 7, none⟩ = some (.int .i64 a1_7) ∧ w'.cell? ⟨gb171, 8, none⟩ = some (.int .i64 a1_8) ∧ w'.cell? ⟨gb171, 9, none⟩ = some (.int .i64 a1_9)) ∧ (w'.heap[gb170]? = some (.cells #[.int .i64 a0_0, .int .i64 a0_1, .int .i64 a0_2, .int .i64 a0_3, .int .i64 a0_4, .int .i64 a0_5, .int .i64 a0_6, .int .i64 a0_7, .int .i64 a0_8, .int .i64 a0_9] 23 (0, 0))) ∧ (w'.heap[gb171]? = some (.cells #[.int .i64 a1_0, .int .i64 a1_1, .int .i64 a1_2, .int .i64 a1_3, .int .i64 a1_4, .int .i64 a1_5, .int .i64 a1_6, .int .i64 a1_7, .int .i64 a1_8, .int .i64 a1_9] 23 (0, 0))) ∧ (w'.heap[gb172]? = some (.cells #[.int .i64 a2_0, .int .i64 a2_1] 39 (0, 0))) ∧ (w'.heap[gb173]? = some (.cells #[.int .i64 a3_0, .int .i64 a3_1] 39 (0, 0))) ∧ (w'.heap[s_]? = some (.cells #[.int .i64 0, .int .i64 0, .int .i64 0, .int .i64 0, .int .i64 0, .int .i64 0, .int .i64 0, .int .i64 0, .int .i64 0, .int .i64 0] 23 (0, 0))) ∧ (w.heap.size ≤ s_) ∧ (w.heap.size ≤ s_) ∧ (gb170 ≠ s_) ∧ (s_ ≠ gb170) ∧ (gb171 ≠ s_) ∧ (s_ ≠ gb171) ∧ (gb172 ≠ s_) ∧ (s_ ≠ gb172) ∧ (gb173 ≠ s_) ∧ (s_ ≠ gb173) ∧ (Below w.heap.size w w')) ?_ ?_
                  rotate_left
                  · intro hJ5_11_17_23_29_35_61
                    refine join_ (σ := Unit) 7 (mk 63 567310616537071615) (fun s_ => [(20, .int .i64 t175), (26, .int .i64 t176), (32, .int .i64 t177), (38, .int .i64 t178), (44, .int .i64 t179), (50, .int .i64 t180)]) (fun s_ w' => (w'.cell? ⟨gb170, 0, none⟩ = some (.int .i64 a0_0) ∧ w'.cell? ⟨gb170, 1, none⟩ = some (.int .i64 a0_1) ∧ w'.cell? ⟨gb170, 2, none⟩ = some (.int .i64 a0_2) ∧ w'.cell? ⟨gb170, 3, none⟩ = some (.int .i64 a0_3) ∧ w'.cell? ⟨gb170, 4, none⟩ = some (.int .i64 a0_4) ∧ w'.cell? ⟨gb170, 5, none⟩ = some (.int .i64 a0_5) ∧ w'.cell? ⟨gb170, 6, none⟩ = some (.int .i64 a0_6) ∧ w'.cell? ⟨gb170, 7, none⟩ = some (.int .i64 a0_7) ∧ w'.cell? ⟨gb170, 8, none⟩ = some (.int .i64 a0_8) ∧ w'.cell? ⟨gb170, 9, none⟩ = some (.int .i64 a0_9) ∧ w'.cell? ⟨gb171, 0, none⟩ = some (.int .i64 a1_0) ∧ w'.cell? ⟨gb171, 1, none⟩ = some (.int .i64 a1_1) ∧ w'.cell? ⟨gb171, 2, none⟩ = some (.int .i64 a1_2) ∧ w'.cell? ⟨gb171, 3, none⟩ = some (.int .i64 a1_3) ∧ w'.cell? ⟨gb171, 4, none⟩ = some (.int .i64 a1_4) ∧ w'.cell? ⟨gb171, 5, none⟩ = some (.int .i64 a1_5) ∧ w'.cell? ⟨gb171, 6, none⟩ = some (.int .i64 a1_6) ∧ w'.cell? ⟨gb171, 7, none⟩ = some (.int .i64 a1_7) ∧ w'.cell? ⟨gb171, 8, none⟩ = some (.int .i64 a1_8) ∧ w'.cell? ⟨gb171, 9, none⟩ = some (.int .i64 a1_9)) ∧ (w'.heap[gb170]? = some (.cells #[.int .i64 a0_0, .int .i64 a0_1, .int .i64 a0_2, .int .i64 a0_3, .int .i64 a0_4, .int .i64 a0_5, .int .i64 a0_6, .int .i64 a0_7, .int .i64 a0_8, .int .i64 a0_9] 23 (0, 0))) ∧ (w'.heap[gb171]? = some (.cells #[.int .i64 a1_0, .int .i64 a1_1, .int .i64 a1_2, .int .i64 a1_3, .int .i64 a1_4, .int .i64 a1_5, .int .i64 a1_6, .int .i64 a1_7, .int .i64 a1_8, .int .i64 a1_9] 23 (0, 0))) ∧ (w'.heap[gb172]? = some (.cells #[.int .i64 a2_0, .int .i64 a2_1] 39 (0, 0))) ∧ (w'.heap[gb173]? = some (.cells #[.int .i64 a3_0, .int .i64 a3_1] 39 (0, 0))) ∧ (Below w.heap.size w w')) ?_ ?_
                    rotate_left
                    · intro hJ5_11_17_23_29_35
                      refine join_ (σ := Nat) 7 (mk 63 2873153591391027199) (fun s_ => [(20, .int .i64 t175), (26, .int .i64 t176), (32, .int .i64 t177), (38, .int .i64 t178), (44, .int .i64 t179), (12, .pointer (some ⟨s_, 0, none⟩))]) (fun s_ w' => (w'.cell? ⟨gb170, 0, none⟩ = some (.int .i64 a0_0) ∧ w'.cell? ⟨gb170, 1, none⟩ = some (.int .i64 a0_1) ∧ w'.cell? ⟨gb170, 2, none⟩ = some (.int .i64 a0_2) ∧ w'.cell? ⟨gb170, 3, none⟩ = some (.int .i64 a0_3) ∧ w'.cell? ⟨gb170, 4, none⟩ = some (.int .i64 a0_4) ∧ w'.cell? ⟨gb170, 5, none⟩ = some (.int .i64 a0_5) ∧ w'.cell? ⟨gb170, 6, none⟩ = some (.int .i64 a0_6) ∧ w'.cell? ⟨gb170, 7, none⟩ = some (.int .i64 a0_7) ∧ w'.cell? ⟨gb170, 8, none⟩ = some (.int .i64 a0_8) ∧ w'.cell? ⟨gb170, 9, none⟩ = some (.int .i64 a0_9) ∧ w'.cell? ⟨gb171, 0, none⟩ = some (.int .i64 a1_0) ∧ w'.cell? ⟨gb171, 1, none⟩ = some (.int .i64 a1_1) ∧ w'.cell? ⟨gb171, 2, none⟩ = some (.int .i64 a1_2) ∧ w'.cell? ⟨gb171, 3, none⟩ = some (.int .i64 a1_3) ∧ w'.cell? ⟨gb171, 4, none⟩ = some (.int .i64 a1_4) ∧ w'.cell? ⟨gb171, 5, none⟩ = some (.int .i64 a1_5) ∧ w'.cell? ⟨gb171, 6, none⟩ = some (.int .i64 a1_6) ∧ w'.cell? ⟨gb171, 7, none⟩ = some (.int .i64 a1_7) ∧ w'.cell? ⟨gb171, 8, none⟩ = some (.int .i64 a1_8) ∧ w'.cell? ⟨gb171, 9, none⟩ = some (.int .i64 a1_9)) ∧ (w'.heap[gb170]? = some (.cells #[.int .i64 a0_0, .int .i64 a0_1, .int .i64 a0_2, .int .i64 a0_3, .int .i64 a0_4, .int .i64 a0_5, .int .i64 a0_6, .int .i64 a0_7, .int .i64 a0_8, .int .i64 a0_9] 23 (0, 0))) ∧ (w'.heap[gb171]? = some (.cells #[.int .i64 a1_0, .int .i64 a1_1, .int .i64 a1_2, .int .i64 a1_3, .int .i64 a1_4, .int .i64 a1_5, .int .i64 a1_6, .int .i64 a1_7, .int .i64 a1_8, .int .i64 a1_9] 23 (0, 0))) ∧ (w'.heap[gb172]? = some (.cells #[.int .i64 a2_0, .int .i64 a2_1] 39 (0, 0))) ∧ (w'.heap[gb173]? = some (.cells #[.int .i64 a3_0, .int .i64 a3_1] 39 (0, 0))) ∧ (w'.heap[s_]? = some (.cells #[.int .i64 0, .int .i64 0, .int .i64 0, .int .i64 0, .int .i64 0, .int .i64 0, .int .i64 0, .int .i64 0, .int .i64 0, .int .i64 0] 23 (0, 0))) ∧ (w.heap.size ≤ s_) ∧ (w.heap.size ≤ s_) ∧ (gb170 ≠ s_) ∧ (s_ ≠ gb170) ∧ (gb171 ≠ s_) ∧ (s_ ≠ gb171) ∧ (gb172 ≠ s_) ∧ (s_ ≠ gb172) ∧ (gb173 ≠ s_) ∧ (s_ ≠ gb173) ∧ (Below w.heap.size w w')) ?_ ?_
                      rotate_left
                      · intro hJ5_11_17_23_29_61
                        refine join_ (σ := Unit) 8 (mk 63 567310582177333247) (fun s_ => [(20, .int .i64 t175), (26, .int .i64 t176), (32, .int .i64 t177), (38, .int .i64 t178), (44, .int .i64 t179)]) (fun s_ w' => (w'.cell? ⟨gb170, 0, none⟩ = some (.int .i64 a0_0) ∧ w'.cell? ⟨gb170, 1, none⟩ = some (.int .i64 a0_1) ∧ w'.cell? ⟨gb170, 2, none⟩ = some (.int .i64 a0_2) ∧ w'.cell? ⟨gb170, 3, none⟩ = some (.int .i64 a0_3) ∧ w'.cell? ⟨gb170, 4, none⟩ = some (.int .i64 a0_4) ∧ w'.cell? ⟨gb170, 5, none⟩ = some (.int .i64 a0_5) ∧ w'.cell? ⟨gb170, 6, none⟩ = some (.int .i64 a0_6) ∧ w'.cell? ⟨gb170, 7, none⟩ = some (.int .i64 a0_7) ∧ w'.cell? ⟨gb170, 8, none⟩ = some (.int .i64 a0_8) ∧ w'.cell? ⟨gb170, 9, none⟩ = some (.int .i64 a0_9) ∧ w'.cell? ⟨gb171, 0, none⟩ = some (.int .i64 a1_0) ∧ w'.cell? ⟨gb171, 1, none⟩ = some (.int .i64 a1_1) ∧ w'.cell? ⟨gb171, 2, none⟩ = some (.int .i64 a1_2) ∧ w'.cell? ⟨gb171, 3, none⟩ = some (.int .i64 a1_3) ∧ w'.cell? ⟨gb171, 4, none⟩ = some (.int .i64 a1_4) ∧ w'.cell? ⟨gb171, 5, none⟩ = some (.int .i64 a1_5) ∧ w'.cell? ⟨gb171, 6, none⟩ = some (.int .i64 a1_6) ∧ w'.cell? ⟨gb171, 7, none⟩ = some (.int .i64 a1_7) ∧ w'.cell? ⟨gb171, 8, none⟩ = some (.int .i64 a1_8) ∧ w'.cell? ⟨gb171, 9, none⟩ = some (.int .i64 a1_9)) ∧ (w'.heap[gb170]? = some (.cells #[.int .i64 a0_0, .int .i64 a0_1, .int .i64 a0_2, .int .i64 a0_3, .int .i64 a0_4, .int .i64 a0_5, .int .i64 a0_6, .int .i64 a0_7, .int .i64 a0_8, .int .i64 a0_9] 23 (0, 0))) ∧ (w'.heap[gb171]? = some (.cells #[.int .i64 a1_0, .int .i64 a1_1, .int .i64 a1_2, .int .i64 a1_3, .int .i64 a1_4, .int .i64 a1_5, .int .i64 a1_6, .int .i64 a1_7, .int .i64 a1_8, .int .i64 a1_9] 23 (0, 0))) ∧ (w'.heap[gb172]? = some (.cells #[.int .i64 a2_0, .int .i64 a2_1] 39 (0, 0))) ∧ (w'.heap[gb173]? = some (.cells #[.int .i64 a3_0, .int .i64 a3_1] 39 (0, 0))) ∧ (Below w.heap.size w w')) ?_ ?_
                        rotate_left
                        · intro hJ5_11_17_23_29
                          refine join_ (σ := Nat) 8 (mk 63 2873153590854156287) (fun s_ => [(20, .int .i64 t175), (26, .int .i64 t176), (32, .int .i64 t177), (38, .int .i64 t178), (12, .pointer (some ⟨s_, 0, none⟩))]) (fun s_ w' => (w'.cell? ⟨gb170, 0, none⟩ = some (.int .i64 a0_0) ∧ w'.cell? ⟨gb170, 1, none⟩ = some (.int .i64 a0_1) ∧ w'.cell? ⟨gb170, 2, none⟩ = some (.int .i64 a0_2) ∧ w'.cell? ⟨gb170, 3, none⟩ = some (.int .i64 a0_3) ∧ w'.cell? ⟨gb170, 4, none⟩ = some (.int .i64 a0_4) ∧ w'.cell? ⟨gb170, 5, none⟩ = some (.int .i64 a0_5) ∧ w'.cell? ⟨gb170, 6, none⟩ = some (.int .i64 a0_6) ∧ w'.cell? ⟨gb170, 7, none⟩ = some (.int .i64 a0_7) ∧ w'.cell? ⟨gb170, 8, none⟩ = some (.int .i64 a0_8) ∧ w'.cell? ⟨gb170, 9, none⟩ = some (.int .i64 a0_9) ∧ w'.cell? ⟨gb171, 0, none⟩ = some (.int .i64 a1_0) ∧ w'.cell? ⟨gb171, 1, none⟩ = some (.int .i64 a1_1) ∧ w'.cell? ⟨gb171, 2, none⟩ = some (.int .i64 a1_2) ∧ w'.cell? ⟨gb171, 3, none⟩ = some (.int .i64 a1_3) ∧ w'.cell? ⟨gb171, 4, none⟩ = some (.int .i64 a1_4) ∧ w'.cell? ⟨gb171, 5, none⟩ = some (.int .i64 a1_5) ∧ w'.cell? ⟨gb171, 6, none⟩ = some (.int .i64 a1_6) ∧ w'.cell? ⟨gb171, 7, none⟩ = some (.int .i64 a1_7) ∧ w'.cell? ⟨gb171, 8, none⟩ = some (.int .i64 a1_8) ∧ w'.cell? ⟨gb171, 9, none⟩ = some (.int .i64 a1_9)) ∧ (w'.heap[gb170]? = some (.cells #[.int .i64 a0_0, .int .i64 a0_1, .int .i64 a0_2, .int .i64 a0_3, .int .i64 a0_4, .int .i64 a0_5, .int .i64 a0_6, .int .i64 a0_7, .int .i64 a0_8, .int .i64 a0_9] 23 (0, 0))) ∧ (w'.heap[gb171]? = some (.cells #[.int .i64 a1_0, .int .i64 a1_1, .int .i64 a1_2, .int .i64 a1_3, .int .i64 a1_4, .int .i64 a1_5, .int .i64 a1_6, .int .i64 a1_7, .int .i64 a1_8, .int .i64 a1_9] 23 (0, 0))) ∧ (w'.heap[gb172]? = some (.cells #[.int .i64 a2_0, .int .i64 a2_1] 39 (0, 0))) ∧ (w'.heap[gb173]? = some (.cells #[.int .i64 a3_0, .int .i64 a3_1] 39 (0, 0))) ∧ (w'.heap[s_]? = some (.cells #[.int .i64 0, .int .i64 0, .int .i64 0, .int .i64 0, .int .i64 0, .int .i64 0, .int .i64 0, .int .i64 0, .int .i64 0, .int .i64 0] 23 (0, 0))) ∧ (w.heap.size ≤ s_) ∧ (w.heap.size ≤ s_) ∧ (gb170 ≠ s_) ∧ (s_ ≠ gb170) ∧ (gb171 ≠ s_) ∧ (s_ ≠ gb171) ∧ (gb172 ≠ s_) ∧ (s_ ≠ gb172) ∧ (gb173 ≠ s_) ∧ (s_ ≠ gb173) ∧ (Below w.heap.size w w')) ?_ ?_
                          rotate_left
                          · intro hJ5_11_17_23_61
                            refine join_ (σ := Unit) 9 (mk 63 567310581640462335) (fun s_ => [(20, .int .i64 t175), (26, .int .i64 t176), (32, .int .i64 t177), (38, .int .i64 t178)]) (fun s_ w' => (w'.cell? ⟨gb170, 0, none⟩ = some (.int .i64 a0_0) ∧ w'.cell? ⟨gb170, 1, none⟩ = some (.int .i64 a0_1) ∧ w'.cell? ⟨gb170, 2, none⟩ = some (.int .i64 a0_2) ∧ w'.cell? ⟨gb170, 3, none⟩ = some (.int .i64 a0_3) ∧ w'.cell? ⟨gb170, 4, none⟩ = some (.int .i64 a0_4) ∧ w'.cell? ⟨gb170, 5, none⟩ = some (.int .i64 a0_5) ∧ w'.cell? ⟨gb170, 6, none⟩ = some (.int .i64 a0_6) ∧ w'.cell? ⟨gb170, 7, none⟩ = some (.int .i64 a0_7) ∧ w'.cell? ⟨gb170, 8, none⟩ = some (.int .i64 a0_8) ∧ w'.cell? ⟨gb170, 9, none⟩ = some (.int .i64 a0_9) ∧ w'.cell? ⟨gb171, 0, none⟩ = some (.int .i64 a1_0) ∧ w'.cell? ⟨gb171, 1, none⟩ = some (.int .i64 a1_1) ∧ w'.cell? ⟨gb171, 2, none⟩ = some (.int .i64 a1_2) ∧ w'.cell? ⟨gb171, 3, none⟩ = some (.int .i64 a1_3) ∧ w'.cell? ⟨gb171, 4, none⟩ = some (.int .i64 a1_4) ∧ w'.cell? ⟨gb171, 5, none⟩ = some (.int .i64 a1_5) ∧ w'.cell? ⟨gb171, 6, none⟩ = some (.int .i64 a1_6) ∧ w'.cell? ⟨gb171, 7, none⟩ = some (.int .i64 a1_7) ∧ w'.cell? ⟨gb171, 8, none⟩ = some (.int .i64 a1_8) ∧ w'.cell? ⟨gb171, 9, none⟩ = some (.int .i64 a1_9)) ∧ (w'.heap[gb170]? = some (.cells #[.int .i64 a0_0, .int .i64 a0_1, .int .i64 a0_2, .int .i64 a0_3, .int .i64 a0_4, .int .i64 a0_5, .int .i64 a0_6, .int .i64 a0_7, .int .i64 a0_8, .int .i64 a0_9] 23 (0, 0))) ∧ (w'.heap[gb171]? = some (.cells #[.int .i64 a1_0, .int .i64 a1_1, .int .i64 a1_2, .int .i64 a1_3, .int .i64 a1_4, .int .i64 a1_5, .int .i64 a1_6, .int .i64 a1_7, .int .i64 a1_8, .int .i64 a1_9] 23 (0, 0))) ∧ (w'.heap[gb172]? = some (.cells #[.int .i64 a2_0, .int .i64 a2_1] 39 (0, 0))) ∧ (w'.heap[gb173]? = some (.cells #[.int .i64 a3_0, .int .i64 a3_1] 39 (0, 0))) ∧ (Below w.heap.size w w')) ?_ ?_
                            rotate_left
                            · intro hJ5_11_17_23
                              refine join_ (σ := Nat) 9 (mk 63 2873153590845767679) (fun s_ => [(20, .int .i64 t175), (26, .int .i64 t176), (32, .int .i64 t177), (12, .pointer (some ⟨s_, 0, none⟩))]) (fun s_ w' => (w'.cell? ⟨gb170, 0, none⟩ = some (.int .i64 a0_0) ∧ w'.cell? ⟨gb170, 1, none⟩ = some (.int .i64 a0_1) ∧ w'.cell? ⟨gb170, 2, none⟩ = some (.int .i64 a0_2) ∧ w'.cell? ⟨gb170, 3, none⟩ = some (.int .i64 a0_3) ∧ w'.cell? ⟨gb170, 4, none⟩ = some (.int .i64 a0_4) ∧ w'.cell? ⟨gb170, 5, none⟩ = some (.int .i64 a0_5) ∧ w'.cell? ⟨gb170, 6, none⟩ = some (.int .i64 a0_6) ∧ w'.cell? ⟨gb170, 7, none⟩ = some (.int .i64 a0_7) ∧ w'.cell? ⟨gb170, 8, none⟩ = some (.int .i64 a0_8) ∧ w'.cell? ⟨gb170, 9, none⟩ = some (.int .i64 a0_9) ∧ w'.cell? ⟨gb171, 0, none⟩ = some (.int .i64 a1_0) ∧ w'.cell? ⟨gb171, 1, none⟩ = some (.int .i64 a1_1) ∧ w'.cell? ⟨gb171, 2, none⟩ = some (.int .i64 a1_2) ∧ w'.cell? ⟨gb171, 3, none⟩ = some (.int .i64 a1_3) ∧ w'.cell? ⟨gb171, 4, none⟩ = some (.int .i64 a1_4) ∧ w'.cell? ⟨gb171, 5, none⟩ = some (.int .i64 a1_5) ∧ w'.cell? ⟨gb171, 6, none⟩ = some (.int .i64 a1_6) ∧ w'.cell? ⟨gb171, 7, none⟩ = some (.int .i64 a1_7) ∧ w'.cell? ⟨gb171, 8, none⟩ = some (.int .i64 a1_8) ∧ w'.cell? ⟨gb171, 9, none⟩ = some (.int .i64 a1_9)) ∧ (w'.heap[gb170]? = some (.cells #[.int .i64 a0_0, .int .i64 a0_1, .int .i64 a0_2, .int .i64 a0_3, .int .i64 a0_4, .int .i64 a0_5, .int .i64 a0_6, .int .i64 a0_7, .int .i64 a0_8, .int .i64 a0_9] 23 (0, 0))) ∧ (w'.heap[gb171]? = some (.cells #[.int .i64 a1_0, .int .i64 a1_1, .int .i64 a1_2, .int .i64 a1_3, .int .i64 a1_4, .int .i64 a1_5, .int .i64 a1_6, .int .i64 a1_7, .int .i64 a1_8, .int .i64 a1_9] 23 (0, 0))) ∧ (w'.heap[gb172]? = some (.cells #[.int .i64 a2_0, .int .i64 a2_1] 39 (0, 0))) ∧ (w'.heap[gb173]? = some (.cells #[.int .i64 a3_0, .int .i64 a3_1] 39 (0, 0))) ∧ (w'.heap[s_]? = some (.cells #[.int .i64 0, .int .i64 0, .int .i64 0, .int .i64 0, .int .i64 0, .int .i64 0, .int .i64 0, .int .i64 0, .int .i64 0, .int .i64 0] 23 (0, 0))) ∧ (w.heap.size ≤ s_) ∧ (w.heap.size ≤ s_) ∧ (gb170 ≠ s_) ∧ (s_ ≠ gb170) ∧ (gb171 ≠ s_) ∧ (s_ ≠ gb171) ∧ (gb172 ≠ s_) ∧ (s_ ≠ gb172) ∧ (gb173 ≠ s_) ∧ (s_ ≠ gb173) ∧ (Below w.heap.size w w')) ?_ ?_
                              rotate_left
                              · intro hJ5_11_17_61
                                refine join_ (σ := Unit) 10 (mk 63 567310581632073727) (fun s_ => [(20, .int .i64 t175), (26, .int .i64 t176), (32, .int .i64 t177)]) (fun s_ w' => (w'.cell? ⟨gb170, 0, none⟩ = some (.int .i64 a0_0) ∧ w'.cell? ⟨gb170, 1, none⟩ = some (.int .i64 a0_1) ∧ w'.cell? ⟨gb170, 2, none⟩ = some (.int .i64 a0_2) ∧ w'.cell? ⟨gb170, 3, none⟩ = some (.int .i64 a0_3) ∧ w'.cell? ⟨gb170, 4, none⟩ = some (.int .i64 a0_4) ∧ w'.cell? ⟨gb170, 5, none⟩ = some (.int .i64 a0_5) ∧ w'.cell? ⟨gb170, 6, none⟩ = some (.int .i64 a0_6) ∧ w'.cell? ⟨gb170, 7, none⟩ = some (.int .i64 a0_7) ∧ w'.cell? ⟨gb170, 8, none⟩ = some (.int .i64 a0_8) ∧ w'.cell? ⟨gb170, 9, none⟩ = some (.int .i64 a0_9) ∧ w'.cell? ⟨gb171, 0, none⟩ = some (.int .i64 a1_0) ∧ w'.cell? ⟨gb171, 1, none⟩ = some (.int .i64 a1_1) ∧ w'.cell? ⟨gb171, 2, none⟩ = some (.int .i64 a1_2) ∧ w'.cell? ⟨gb171, 3, none⟩ = some (.int .i64 a1_3) ∧ w'.cell? ⟨gb171, 4, none⟩ = some (.int .i64 a1_4) ∧ w'.cell? ⟨gb171, 5, none⟩ = some (.int .i64 a1_5) ∧ w'.cell? ⟨gb171, 6, none⟩ = some (.int .i64 a1_6) ∧ w'.cell? ⟨gb171, 7, none⟩ = some (.int .i64 a1_7) ∧ w'.cell? ⟨gb171, 8, none⟩ = some (.int .i64 a1_8) ∧ w'.cell? ⟨gb171, 9, none⟩ = some (.int .i64 a1_9)) ∧ (w'.heap[gb170]? = some (.cells #[.int .i64 a0_0, .int .i64 a0_1, .int .i64 a0_2, .int .i64 a0_3, .int .i64 a0_4, .int .i64 a0_5, .int .i64 a0_6, .int .i64 a0_7, .int .i64 a0_8, .int .i64 a0_9] 23 (0, 0))) ∧ (w'.heap[gb171]? = some (.cells #[.int .i64 a1_0, .int .i64 a1_1, .int .i64 a1_2, .int .i64 a1_3, .int .i64 a1_4, .int .i64 a1_5, .int .i64 a1_6, .int .i64 a1_7, .int .i64 a1_8, .int .i64 a1_9] 23 (0, 0))) ∧ (w'.heap[gb172]? = some (.cells #[.int .i64 a2_0, .int .i64 a2_1] 39 (0, 0))) ∧ (w'.heap[gb173]? = some (.cells #[.int .i64 a3_0, .int .i64 a3_1] 39 (0, 0))) ∧ (Below w.heap.size w w')) ?_ ?_
                                rotate_left
                                · intro hJ5_11_17
                                  refine join_ (σ := Nat) 10 (mk 63 2873153590845636607) (fun s_ => [(20, .int .i64 t175), (26, .int .i64 t176), (12, .pointer (some ⟨s_, 0, none⟩))]) (fun s_ w' => (w'.cell? ⟨gb170, 0, none⟩ = some (.int .i64 a0_0) ∧ w'.cell? ⟨gb170, 1, none⟩ = some (.int .i64 a0_1) ∧ w'.cell? ⟨gb170, 2, none⟩ = some (.int .i64 a0_2) ∧ w'.cell? ⟨gb170, 3, none⟩ = some (.int .i64 a0_3) ∧ w'.cell? ⟨gb170, 4, none⟩ = some (.int .i64 a0_4) ∧ w'.cell? ⟨gb170, 5, none⟩ = some (.int .i64 a0_5) ∧ w'.cell? ⟨gb170, 6, none⟩ = some (.int .i64 a0_6) ∧ w'.cell? ⟨gb170, 7, none⟩ = some (.int .i64 a0_7) ∧ w'.cell? ⟨gb170, 8, none⟩ = some (.int .i64 a0_8) ∧ w'.cell? ⟨gb170, 9, none⟩ = some (.int .i64 a0_9) ∧ w'.cell? ⟨gb171, 0, none⟩ = some (.int .i64 a1_0) ∧ w'.cell? ⟨gb171, 1, none⟩ = some (.int .i64 a1_1) ∧ w'.cell? ⟨gb171, 2, none⟩ = some (.int .i64 a1_2) ∧ w'.cell? ⟨gb171, 3, none⟩ = some (.int .i64 a1_3) ∧ w'.cell? ⟨gb171, 4, none⟩ = some (.int .i64 a1_4) ∧ w'.cell? ⟨gb171, 5, none⟩ = some (.int .i64 a1_5) ∧ w'.cell? ⟨gb171, 6, none⟩ = some (.int .i64 a1_6) ∧ w'.cell? ⟨gb171, 7, none⟩ = some (.int .i64 a1_7) ∧ w'.cell? ⟨gb171, 8, none⟩ = some (.int .i64 a1_8) ∧ w'.cell? ⟨gb171, 9, none⟩ = some (.int .i64 a1_9)) ∧ (w'.heap[gb170]? = some (.cells #[.int .i64 a0_0, .int .i64 a0_1, .int .i64 a0_2, .int .i64 a0_3, .int .i64 a0_4, .int .i64 a0_5, .int .i64 a0_6, .int .i64 a0_7, .int .i64 a0_8, .int .i64 a0_9] 23 (0, 0))) ∧ (w'.heap[gb171]? = some (.cells #[.int .i64 a1_0, .int .i64 a1_1, .int .i64 a1_2, .int .i64 a1_3, .int .i64 a1_4, .int .i64 a1_5, .int .i64 a1_6, .int .i64 a1_7, .int .i64 a1_8, .int .i64 a1_9] 23 (0, 0))) ∧ (w'.heap[gb172]? = some (.cells #[.int .i64 a2_0, .int .i64 a2_1] 39 (0, 0))) ∧ (w'.heap[gb173]? = some (.cells #[.int .i64 a3_0, .int .i64 a3_1] 39 (0, 0))) ∧ (w'.heap[s_]? = some (.cells #[.int .i64 0, .int .i64 0, .int .i64 0, .int .i64 0, .int .i64 0, .int .i64 0, .int .i64 0, .int .i64 0, .int .i64 0, .int .i64 0] 23 (0, 0))) ∧ (w.heap.size ≤ s_) ∧ (w.heap.size ≤ s_) ∧ (gb170 ≠ s_) ∧ (s_ ≠ gb170) ∧ (gb171 ≠ s_) ∧ (s_ ≠ gb171) ∧ (gb172 ≠ s_) ∧ (s_ ≠ gb172) ∧ (gb173 ≠ s_) ∧ (s_ ≠ gb173) ∧ (Below w.heap.size w w')) ?_ ?_
                                  rotate_left
                                  · intro hJ5_11_61
                                    refine join_ (σ := Unit) 11 (mk 63 567310581631942655) (fun s_ => [(20, .int .i64 t175), (26, .int .i64 t176)]) (fun s_ w' => (w'.cell? ⟨gb170, 0, none⟩ = some (.int .i64 a0_0) ∧ w'.cell? ⟨gb170, 1, none⟩ = some (.int .i64 a0_1) ∧ w'.cell? ⟨gb170, 2, none⟩ = some (.int .i64 a0_2) ∧ w'.cell? ⟨gb170, 3, none⟩ = some (.int .i64 a0_3) ∧ w'.cell? ⟨gb170, 4, none⟩ = some (.int .i64 a0_4) ∧ w'.cell? ⟨gb170, 5, none⟩ = some (.int .i64 a0_5) ∧ w'.cell? ⟨gb170, 6, none⟩ = some (.int .i64 a0_6) ∧ w'.cell? ⟨gb170, 7, none⟩ = some (.int .i64 a0_7) ∧ w'.cell? ⟨gb170, 8, none⟩ = some (.int .i64 a0_8) ∧ w'.cell? ⟨gb170, 9, none⟩ = some (.int .i64 a0_9) ∧ w'.cell? ⟨gb171, 0, none⟩ = some (.int .i64 a1_0) ∧ w'.cell? ⟨gb171, 1, none⟩ = some (.int .i64 a1_1) ∧ w'.cell? ⟨gb171, 2, none⟩ = some (.int .i64 a1_2) ∧ w'.cell? ⟨gb171, 3, none⟩ = some (.int .i64 a1_3) ∧ w'.cell? ⟨gb171, 4, none⟩ = some (.int .i64 a1_4) ∧ w'.cell? ⟨gb171, 5, none⟩ = some (.int .i64 a1_5) ∧ w'.cell? ⟨gb171, 6, none⟩ = some (.int .i64 a1_6) ∧ w'.cell? ⟨gb171, 7, none⟩ = some (.int .i64 a1_7) ∧ w'.cell? ⟨gb171, 8, none⟩ = some (.int .i64 a1_8) ∧ w'.cell? ⟨gb171, 9, none⟩ = some (.int .i64 a1_9)) ∧ (w'.heap[gb170]? = some (.cells #[.int .i64 a0_0, .int .i64 a0_1, .int .i64 a0_2, .int .i64 a0_3, .int .i64 a0_4, .int .i64 a0_5, .int .i64 a0_6, .int .i64 a0_7, .int .i64 a0_8, .int .i64 a0_9] 23 (0, 0))) ∧ (w'.heap[gb171]? = some (.cells #[.int .i64 a1_0, .int .i64 a1_1, .int .i64 a1_2, .int .i64 a1_3, .int .i64 a1_4, .int .i64 a1_5, .int .i64 a1_6, .int .i64 a1_7, .int .i64 a1_8, .int .i64 a1_9] 23 (0, 0))) ∧ (w'.heap[gb172]? = some (.cells #[.int .i64 a2_0, .int .i64 a2_1] 39 (0, 0))) ∧ (w'.heap[gb173]? = some (.cells #[.int .i64 a3_0, .int .i64 a3_1] 39 (0, 0))) ∧ (Below w.heap.size w w')) ?_ ?_
                                    rotate_left
                                    · intro hJ5_11
                                      refine join_ (σ := Nat) 11 (mk 63 2873153590845634559) (fun s_ => [(20, .int .i64 t175), (12, .pointer (some ⟨s_, 0, none⟩))]) (fun s_ w' => (w'.cell? ⟨gb170, 0, none⟩ = some (.int .i64 a0_0) ∧ w'.cell? ⟨gb170, 1, none⟩ = some (.int .i64 a0_1) ∧ w'.cell? ⟨gb170, 2, none⟩ = some (.int .i64 a0_2) ∧ w'.cell? ⟨gb170, 3, none⟩ = some (.int .i64 a0_3) ∧ w'.cell? ⟨gb170, 4, none⟩ = some (.int .i64 a0_4) ∧ w'.cell? ⟨gb170, 5, none⟩ = some (.int .i64 a0_5) ∧ w'.cell? ⟨gb170, 6, none⟩ = some (.int .i64 a0_6) ∧ w'.cell? ⟨gb170, 7, none⟩ = some (.int .i64 a0_7) ∧ w'.cell? ⟨gb170, 8, none⟩ = some (.int .i64 a0_8) ∧ w'.cell? ⟨gb170, 9, none⟩ = some (.int .i64 a0_9) ∧ w'.cell? ⟨gb171, 0, none⟩ = some (.int .i64 a1_0) ∧ w'.cell? ⟨gb171, 1, none⟩ = some (.int .i64 a1_1) ∧ w'.cell? ⟨gb171, 2, none⟩ = some (.int .i64 a1_2) ∧ w'.cell? ⟨gb171, 3, none⟩ = some (.int .i64 a1_3) ∧ w'.cell? ⟨gb171, 4, none⟩ = some (.int .i64 a1_4) ∧ w'.cell? ⟨gb171, 5, none⟩ = some (.int .i64 a1_5) ∧ w'.cell? ⟨gb171, 6, none⟩ = some (.int .i64 a1_6) ∧ w'.cell? ⟨gb171, 7, none⟩ = some (.int .i64 a1_7) ∧ w'.cell? ⟨gb171, 8, none⟩ = some (.int .i64 a1_8) ∧ w'.cell? ⟨gb171, 9, none⟩ = some (.int .i64 a1_9)) ∧ (w'.heap[gb170]? = some (.cells #[.int .i64 a0_0, .int .i64 a0_1, .int .i64 a0_2, .int .i64 a0_3, .int .i64 a0_4, .int .i64 a0_5, .int .i64 a0_6, .int .i64 a0_7, .int .i64 a0_8, .int .i64 a0_9] 23 (0, 0))) ∧ (w'.heap[gb171]? = some (.cells #[.int .i64 a1_0, .int .i64 a1_1, .int .i64 a1_2, .int .i64 a1_3, .int .i64 a1_4, .int .i64 a1_5, .int .i64 a1_6, .int .i64 a1_7, .int .i64 a1_8, .int .i64 a1_9] 23 (0, 0))) ∧ (w'.heap[gb172]? = some (.cells #[.int .i64 a2_0, .int .i64 a2_1] 39 (0, 0))) ∧ (w'.heap[gb173]? = some (.cells #[.int .i64 a3_0, .int .i64 a3_1] 39 (0, 0))) ∧ (w'.heap[s_]? = some (.cells #[.int .i64 0, .int .i64 0, .int .i64 0, .int .i64 0, .int .i64 0, .int .i64 0, .int .i64 0, .int .i64 0, .int .i64 0, .int .i64 0] 23 (0, 0))) ∧ (w.heap.size ≤ s_) ∧ (w.heap.size ≤ s_) ∧ (gb170 ≠ s_) ∧ (s_ ≠ gb170) ∧ (gb171 ≠ s_) ∧ (s_ ≠ gb171) ∧ (gb172 ≠ s_) ∧ (s_ ≠ gb172) ∧ (gb173 ≠ s_) ∧ (s_ ≠ gb173) ∧ (Below w.heap.size w w')) ?_ ?_
                                      rotate_left
                                      · intro hJ5_61
                                        refine join_ (σ := Unit) 12 (mk 63 567310581631940607) (fun s_ => [(20, .int .i64 t175)]) (fun s_ w' => (w'.cell? ⟨gb170, 0, none⟩ = some (.int .i64 a0_0) ∧ w'.cell? ⟨gb170, 1, none⟩ = some (.int .i64 a0_1) ∧ w'.cell? ⟨gb170, 2, none⟩ = some (.int .i64 a0_2) ∧ w'.cell? ⟨gb170, 3, none⟩ = some (.int .i64 a0_3) ∧ w'.cell? ⟨gb170, 4, none⟩ = some (.int .i64 a0_4) ∧ w'.cell? ⟨gb170, 5, none⟩ = some (.int .i64 a0_5) ∧ w'.cell? ⟨gb170, 6, none⟩ = some (.int .i64 a0_6) ∧ w'.cell? ⟨gb170, 7, none⟩ = some (.int .i64 a0_7) ∧ w'.cell? ⟨gb170, 8, none⟩ = some (.int .i64 a0_8) ∧ w'.cell? ⟨gb170, 9, none⟩ = some (.int .i64 a0_9) ∧ w'.cell? ⟨gb171, 0, none⟩ = some (.int .i64 a1_0) ∧ w'.cell? ⟨gb171, 1, none⟩ = some (.int .i64 a1_1) ∧ w'.cell? ⟨gb171, 2, none⟩ = some (.int .i64 a1_2) ∧ w'.cell? ⟨gb171, 3, none⟩ = some (.int .i64 a1_3) ∧ w'.cell? ⟨gb171, 4, none⟩ = some (.int .i64 a1_4) ∧ w'.cell? ⟨gb171, 5, none⟩ = some (.int .i64 a1_5) ∧ w'.cell? ⟨gb171, 6, none⟩ = some (.int .i64 a1_6) ∧ w'.cell? ⟨gb171, 7, none⟩ = some (.int .i64 a1_7) ∧ w'.cell? ⟨gb171, 8, none⟩ = some (.int .i64 a1_8) ∧ w'.cell? ⟨gb171, 9, none⟩ = some (.int .i64 a1_9)) ∧ (w'.heap[gb170]? = some (.cells #[.int .i64 a0_0, .int .i64 a0_1, .int .i64 a0_2, .int .i64 a0_3, .int .i64 a0_4, .int .i64 a0_5, .int .i64 a0_6, .int .i64 a0_7, .int .i64 a0_8, .int .i64 a0_9] 23 (0, 0))) ∧ (w'.heap[gb171]? = some (.cells #[.int .i64 a1_0, .int .i64 a1_1, .int .i64 a1_2, .int .i64 a1_3, .int .i64 a1_4, .int .i64 a1_5, .int .i64 a1_6, .int .i64 a1_7, .int .i64 a1_8, .int .i64 a1_9] 23 (0, 0))) ∧ (w'.heap[gb172]? = some (.cells #[.int .i64 a2_0, .int .i64 a2_1] 39 (0, 0))) ∧ (w'.heap[gb173]? = some (.cells #[.int .i64 a3_0, .int .i64 a3_1] 39 (0, 0))) ∧ (Below w.heap.size w w')) ?_ ?_
                                        rotate_left
                                        · intro hJ5
                                          refine join_ (σ := Nat) 12 (mk 63 2873153590845634527) (fun s_ => [(12, .pointer (some ⟨s_, 0, none⟩))]) (fun s_ w' => (w'.cell? ⟨gb170, 0, none⟩ = some (.int .i64 a0_0) ∧ w'.cell? ⟨gb170, 1, none⟩ = some (.int .i64 a0_1) ∧ w'.cell? ⟨gb170, 2, none⟩ = some (.int .i64 a0_2) ∧ w'.cell? ⟨gb170, 3, none⟩ = some (.int .i64 a0_3) ∧ w'.cell? ⟨gb170, 4, none⟩ = some (.int .i64 a0_4) ∧ w'.cell? ⟨gb170, 5, none⟩ = some (.int .i64 a0_5) ∧ w'.cell? ⟨gb170, 6, none⟩ = some (.int .i64 a0_6) ∧ w'.cell? ⟨gb170, 7, none⟩ = some (.int .i64 a0_7) ∧ w'.cell? ⟨gb170, 8, none⟩ = some (.int .i64 a0_8) ∧ w'.cell? ⟨gb170, 9, none⟩ = some (.int .i64 a0_9) ∧ w'.cell? ⟨gb171, 0, none⟩ = some (.int .i64 a1_0) ∧ w'.cell? ⟨gb171, 1, none⟩ = some (.int .i64 a1_1) ∧ w'.cell? ⟨gb171, 2, none⟩ = some (.int .i64 a1_2) ∧ w'.cell? ⟨gb171, 3, none⟩ = some (.int .i64 a1_3) ∧ w'.cell? ⟨gb171, 4, none⟩ = some (.int .i64 a1_4) ∧ w'.cell? ⟨gb171, 5, none⟩ = some (.int .i64 a1_5) ∧ w'.cell? ⟨gb171, 6, none⟩ = some (.int .i64 a1_6) ∧ w'.cell? ⟨gb171, 7, none⟩ = some (.int .i64 a1_7) ∧ w'.cell? ⟨gb171, 8, none⟩ = some (.int .i64 a1_8) ∧ w'.cell? ⟨gb171, 9, none⟩ = some (.int .i64 a1_9)) ∧ (w'.heap[gb170]? = some (.cells #[.int .i64 a0_0, .int .i64 a0_1, .int .i64 a0_2, .int .i64 a0_3, .int .i64 a0_4, .int .i64 a0_5, .int .i64 a0_6, .int .i64 a0_7, .int .i64 a0_8, .int .i64 a0_9] 23 (0, 0))) ∧ (w'.heap[gb171]? = some (.cells #[.int .i64 a1_0, .int .i64 a1_1, .int .i64 a1_2, .int .i64 a1_3, .int .i64 a1_4, .int .i64 a1_5, .int .i64 a1_6, .int .i64 a1_7, .int .i64 a1_8, .int .i64 a1_9] 23 (0, 0))) ∧ (w'.heap[gb172]? = some (.cells #[.int .i64 a2_0, .int .i64 a2_1] 39 (0, 0))) ∧ (w'.heap[gb173]? = some (.cells #[.int .i64 a3_0, .int .i64 a3_1] 39 (0, 0))) ∧ (w'.heap[s_]? = some (.cells #[.int .i64 0, .int .i64 0, .int .i64 0, .int .i64 0, .int .i64 0, .int .i64 0, .int .i64 0, .int .i64 0, .int .i64 0, .int .i64 0] 23 (0, 0))) ∧ (w.heap.size ≤ s_) ∧ (w.heap.size ≤ s_) ∧ (gb170 ≠ s_) ∧ (s_ ≠ gb170) ∧ (gb171 ≠ s_) ∧ (s_ ≠ gb171) ∧ (gb172 ≠ s_) ∧ (s_ ≠ gb172) ∧ (gb173 ≠ s_) ∧ (s_ ≠ gb173) ∧ (Below w.heap.size w w')) ?_ ?_
                                          rotate_left
                                          · intro hJ61
                                            refine two_ (i := 5) (j := 61) (Ni := some 20) (Nj := some 12) (mk 63 567310581631940607) (mk 63 2873153590845634527) rfl rfl rfl rfl (two_of HT_.out (by kernel_rfl)) (by decide) (by decide) (fun K hK => ?_) (fun K hK => ?_)
                                            · skip
                                              refine goes_ Try.func21 (by kernel_rfl) rfl #[.int .i64 a0_0, .int .i64 a1_0, .int .u8 a4] (by rfl) rfl rfl (by (try simp only [List.map_toArray, List.map_cons, List.map_nil]); first | done | rfl | (simp only [List.length_drop, List.length_take]; rfl)) ?_
                                              with_reducible refine (millwrightlaw04_mid.calls a0_0 a1_0 a4 t175 _ A7.out).mono ?_
                                              rintro e w' ⟨rfl, ⟨nd, rfl⟩⟩
                                              refine ⟨_, rfl, ?_⟩
                                              refine hK.out _ _ (HS_of BK170.out BK171.out) (fun hHeld => ?_)
                                              clear hK K
                                              refine norm_ (a' := ?_) ?_ ?_
                                              rotate_left
                                              · show Act.put _ (some 20) _ = _
                                                simp only [Act.put, setIfInBounds_toArray, set_cons_zero, set_cons_succ, i64_w, i32_w]
                                                rfl
                                              exact norm_ (by simp only [putAll, Act.put, setIfInBounds_toArray, set_cons_zero, set_cons_succ] <;> rfl) (hJ5 () _ ⟨hHeld, BK170.out, BK171.out, BK172.out, BK173.out, (by repeat (first | (with_reducible first | exact HB.out | apply below_alloc | apply pw_below_drewN | apply below_drew1) | exact HB.out))⟩)
                                            · skip
                                              refine box_step ?hg (N := 12) ?hd (cs := #[.int .i64 0, .int .i64 0, .int .i64 0, .int .i64 0, .int .i64 0, .int .i64 0, .int .i64 0, .int .i64 0, .int .i64 0, .int .i64 0]) (t := 23) ?hr ?_; (case hd => rfl); (case hg => rfl); (case hr => first | (go_simp; done) | (go_simp; rfl))
                                              intro gb185 hg w26 hbox hb
                                              have n0_ := Aside0.mk (blk_below (by exact BK170.out) hb)
                                              have n1_ := Aside0.mk (blk_below (by exact BK171.out) hb)
                                              have n2_ := Aside0.mk (blk_below (by exact BK172.out) hb)
                                              have n3_ := Aside0.mk (blk_below (by exact BK173.out) hb)
                                              have n4_ := Aside0.mk (below_step (by repeat (first | (with_reducible first | exact HB.out | apply below_alloc | apply pw_below_drewN | apply below_drew1) | exact HB.out)) hb)
                                              have n5_ := Aside0.mk (hbox)
                                              have n6_ := Aside0.mk ((by rw [hg]; exact (below_size (by repeat (first | (with_reducible first | exact HB.out | apply below_alloc | apply pw_below_drewN | apply below_drew1) | exact HB.out))) : w.heap.size ≤ gb185))
                                              have n7_ := Aside0.mk ((by rw [hg]; exact (below_size (by repeat (first | (with_reducible first | exact HB.out | apply below_alloc | apply pw_below_drewN | apply below_drew1) | exact HB.out))) : w.heap.size ≤ gb185))
                                              have n8_ := Aside0.mk ((by rw [hg]; exact Nat.ne_of_lt (blk_lt BK170.out) : gb170 ≠ gb185))
                                              have n9_ := Aside0.mk n8_.out.symm
                                              have n10_ := Aside0.mk ((by rw [hg]; exact Nat.ne_of_lt (blk_lt BK171.out) : gb171 ≠ gb185))
                                              have n11_ := Aside0.mk n10_.out.symm
                                              have n12_ := Aside0.mk ((by rw [hg]; exact Nat.ne_of_lt (blk_lt BK172.out) : gb172 ≠ gb185))
                                              have n13_ := Aside0.mk n12_.out.symm
                                              have n14_ := Aside0.mk ((by rw [hg]; exact Nat.ne_of_lt (blk_lt BK173.out) : gb173 ≠ gb185))
                                              have n15_ := Aside0.mk n14_.out.symm
                                              clear BK170
                                              clear BK171
                                              clear BK172
                                              clear BK173
                                              clear HB
                                              have BK170 := n0_
                                              have BK171 := n1_
                                              have BK172 := n2_
                                              have BK173 := n3_
                                              have HB := n4_
                                              have BK185 := n5_
                                              have GW185 := n6_
                                              have GE185 := n7_
                                              have NB170_185 := n8_
                                              have NB185_170 := n9_
                                              have NB171_185 := n10_
                                              have NB185_171 := n11_
                                              have NB172_185 := n12_
                                              have NB185_172 := n13_
                                              have NB173_185 := n14_
                                              have NB185_173 := n15_
                                              clear n0_ n1_ n2_ n3_ n4_ n5_ n6_ n7_ n8_ n9_ n10_ n11_ n12_ n13_ n14_ n15_
                                              clear hb hbox hg
                                              refine hK.out _ _ (HS_of BK170.out BK171.out) (fun hHeld => ?_)
                                              clear hK K
                                              refine norm_ (a' := ?_) ?_ ?_
                                              rotate_left
                                              · show Act.put _ (some 12) _ = _
                                                simp only [Act.put, setIfInBounds_toArray, set_cons_zero, set_cons_succ, i64_w, i32_w]
                                                rfl
                                              exact norm_ (by simp only [putAll, Act.put, setIfInBounds_toArray, set_cons_zero, set_cons_succ] <;> rfl) (hJ61 (gb185) _ ⟨hHeld, BK170.out, BK171.out, BK172.out, BK173.out, BK185.out, GW185.out, GE185.out, NB170_185.out, NB185_170.out, NB171_185.out, NB185_171.out, NB172_185.out, NB185_172.out, NB173_185.out, NB185_173.out, (by repeat (first | (with_reducible first | exact HB.out | apply below_alloc | apply pw_below_drewN | apply below_drew1) | exact HB.out))⟩)
                                          · skip
                                            rintro gb185 w27 ⟨hS_, h0_, h1_, h2_, h3_, h4_, h5_, h6_, h7_, h8_, h9_, h10_, h11_, h12_, h13_, h14_, h15_⟩
                                            clear BK170 BK171 BK172 BK173 HB
                                            have BK170 := Aside0.mk h0_
                                            have BK171 := Aside0.mk h1_
                                            have BK172 := Aside0.mk h2_
                                            have BK173 := Aside0.mk h3_
                                            have BK185 := Aside0.mk h4_
                                            have GW185 := Aside0.mk h5_
                                            have GE185 := Aside0.mk h6_
                                            have NB170_185 := Aside0.mk h7_
                                            have NB185_170 := Aside0.mk h8_
                                            have NB171_185 := Aside0.mk h9_
                                            have NB185_171 := Aside0.mk h10_
                                            have NB172_185 := Aside0.mk h11_
                                            have NB185_172 := Aside0.mk h12_
                                            have NB173_185 := Aside0.mk h13_
                                            have NB185_173 := Aside0.mk h14_
                                            have HB := Aside0.mk h15_
                                            clear h0_ h1_ h2_ h3_ h4_ h5_ h6_ h7_ h8_ h9_ h10_ h11_ h12_ h13_ h14_ h15_
                                            have hHeld := hS_
                                            refine norm_ (a' := ?_) ?_ ?_
                                            rotate_left
                                            · simp only [putAll, Act.put, setIfInBounds_toArray, set_cons_zero, set_cons_succ]
                                              rfl
                                            refine one_ (i := 5) (N := some 20) (mk 63 2873153590845634559) rfl rfl (one_of HT_.out (by kernel_rfl)) (by decide) (fun K hK => ?_)
                                            refine goes_ Try.func21 (by kernel_rfl) rfl #[.int .i64 a0_0, .int .i64 a1_0, .int .u8 a4] (by rfl) rfl rfl (by (try simp only [List.map_toArray, List.map_cons, List.map_nil]); first | done | rfl | (simp only [List.length_drop, List.length_take]; rfl)) ?_
                                            with_reducible refine (millwrightlaw04_mid.calls a0_0 a1_0 a4 t175 _ A7.out).mono ?_
                                            rintro e w' ⟨rfl, ⟨nd, rfl⟩⟩
                                            refine ⟨_, rfl, ?_⟩
                                            refine hK.out _ _ (HS_of BK170.out BK171.out) (fun hHeld => ?_)
                                            clear hK K
                                            refine norm_ (a' := ?_) ?_ ?_
                                            rotate_left
                                            · show Act.put _ (some 20) _ = _
                                              simp only [Act.put, setIfInBounds_toArray, set_cons_zero, set_cons_succ, i64_w, i32_w]
                                              rfl
                                            exact norm_ (by simp only [putAll, Act.put, setIfInBounds_toArray, set_cons_zero, set_cons_succ] <;> rfl) (hJ5_61 (gb185) _ ⟨hHeld, BK170.out, BK171.out, BK172.out, BK173.out, BK185.out, GW185.out, GE185.out, NB170_185.out, NB185_170.out, NB171_185.out, NB185_171.out, NB172_185.out, NB185_172.out, NB173_185.out, NB185_173.out, (by repeat (first | (with_reducible first | exact HB.out | apply below_alloc | apply pw_below_drewN | apply below_drew1) | exact HB.out))⟩)
                                        · skip
                                          rintro _ w26 ⟨hS_, h0_, h1_, h2_, h3_, h4_⟩
                                          clear BK170 BK171 BK172 BK173 HB
                                          have BK170 := Aside0.mk h0_
                                          have BK171 := Aside0.mk h1_
                                          have BK172 := Aside0.mk h2_
                                          have BK173 := Aside0.mk h3_
                                          have HB := Aside0.mk h4_
                                          clear h0_ h1_ h2_ h3_ h4_
                                          have hHeld := hS_
                                          refine norm_ (a' := ?_) ?_ ?_
                                          rotate_left
                                          · simp only [putAll, Act.put, setIfInBounds_toArray, set_cons_zero, set_cons_succ]
                                            rfl
                                          refine two_ (i := 11) (j := 61) (Ni := some 26) (Nj := some 12) (mk 63 567310581631942655) (mk 63 2873153590845634559) rfl rfl rfl rfl (two_of HT_.out (by kernel_rfl)) (by decide) (by decide) (fun K hK => ?_) (fun K hK => ?_)
                                          · skip
                                            refine goes_ Try.func21 (by kernel_rfl) rfl #[.int .i64 a0_1, .int .i64 a1_1, .int .u8 a4] (by rfl) rfl rfl (by (try simp only [List.map_toArray, List.map_cons, List.map_nil]); first | done | rfl | (simp only [List.length_drop, List.length_take]; rfl)) ?_
                                            with_reducible refine (millwrightlaw04_mid.calls a0_1 a1_1 a4 t176 _ A8.out).mono ?_
                                            rintro e w' ⟨rfl, ⟨nd, rfl⟩⟩
                                            refine ⟨_, rfl, ?_⟩
                                            refine hK.out _ _ (HS_of BK170.out BK171.out) (fun hHeld => ?_)
                                            clear hK K
                                            refine norm_ (a' := ?_) ?_ ?_
                                            rotate_left
                                            · show Act.put _ (some 26) _ = _
                                              simp only [Act.put, setIfInBounds_toArray, set_cons_zero, set_cons_succ, i64_w, i32_w]
                                              rfl
                                            exact norm_ (by simp only [putAll, Act.put, setIfInBounds_toArray, set_cons_zero, set_cons_succ] <;> rfl) (hJ5_11 () _ ⟨hHeld, BK170.out, BK171.out, BK172.out, BK173.out, (by repeat (first | (with_reducible first | exact HB.out | apply below_alloc | apply pw_below_drewN | apply below_drew1) | exact HB.out))⟩)
                                          · skip
                                            refine box_step ?hg (N := 12) ?hd (cs := #[.int .i64 0, .int .i64 0, .int .i64 0, .int .i64 0, .int .i64 0, .int .i64 0, .int .i64 0, .int .i64 0, .int .i64 0, .int .i64 0]) (t := 23) ?hr ?_; (case hd => rfl); (case hg => rfl); (case hr => first | (go_simp; done) | (go_simp; rfl))
                                            intro gb185 hg w27 hbox hb
                                            have n0_ := Aside0.mk (blk_below (by exact BK170.out) hb)
                                            have n1_ := Aside0.mk (blk_below (by exact BK171.out) hb)
                                            have n2_ := Aside0.mk (blk_below (by exact BK172.out) hb)
                                            have n3_ := Aside0.mk (blk_below (by exact BK173.out) hb)
                                            have n4_ := Aside0.mk (below_step (by repeat (first | (with_reducible first | exact HB.out | apply below_alloc | apply pw_below_drewN | apply below_drew1) | exact HB.out)) hb)
                                            have n5_ := Aside0.mk (hbox)
                                            have n6_ := Aside0.mk ((by rw [hg]; exact (below_size (by repeat (first | (with_reducible first | exact HB.out | apply below_alloc | apply pw_below_drewN | apply below_drew1) | exact HB.out))) : w.heap.size ≤ gb185))
                                            have n7_ := Aside0.mk ((by rw [hg]; exact (below_size (by repeat (first | (with_reducible first | exact HB.out | apply below_alloc | apply pw_below_drewN | apply below_drew1) | exact HB.out))) : w.heap.size ≤ gb185))
                                            have n8_ := Aside0.mk ((by rw [hg]; exact Nat.ne_of_lt (blk_lt BK170.out) : gb170 ≠ gb185))
                                            have n9_ := Aside0.mk n8_.out.symm
                                            have n10_ := Aside0.mk ((by rw [hg]; exact Nat.ne_of_lt (blk_lt BK171.out) : gb171 ≠ gb185))
                                            have n11_ := Aside0.mk n10_.out.symm
                                            have n12_ := Aside0.mk ((by rw [hg]; exact Nat.ne_of_lt (blk_lt BK172.out) : gb172 ≠ gb185))
                                            have n13_ := Aside0.mk n12_.out.symm
                                            have n14_ := Aside0.mk ((by rw [hg]; exact Nat.ne_of_lt (blk_lt BK173.out) : gb173 ≠ gb185))
                                            have n15_ := Aside0.mk n14_.out.symm
                                            clear BK170
                                            clear BK171
                                            clear BK172
                                            clear BK173
                                            clear HB
                                            have BK170 := n0_
                                            have BK171 := n1_
                                            have BK172 := n2_
                                            have BK173 := n3_
                                            have HB := n4_
                                            have BK185 := n5_
                                            have GW185 := n6_
                                            have GE185 := n7_
                                            have NB170_185 := n8_
                                            have NB185_170 := n9_
                                            have NB171_185 := n10_
                                            have NB185_171 := n11_
                                            have NB172_185 := n12_
                                            have NB185_172 := n13_
                                            have NB173_185 := n14_
                                            have NB185_173 := n15_
                                            clear n0_ n1_ n2_ n3_ n4_ n5_ n6_ n7_ n8_ n9_ n10_ n11_ n12_ n13_ n14_ n15_
                                            clear hb hbox hg
                                            refine hK.out _ _ (HS_of BK170.out BK171.out) (fun hHeld => ?_)
                                            clear hK K
                                            refine norm_ (a' := ?_) ?_ ?_
                                            rotate_left
                                            · show Act.put _ (some 12) _ = _
                                              simp only [Act.put, setIfInBounds_toArray, set_cons_zero, set_cons_succ, i64_w, i32_w]
                                              rfl
                                            exact norm_ (by simp only [putAll, Act.put, setIfInBounds_toArray, set_cons_zero, set_cons_succ] <;> rfl) (hJ5_61 (gb185) _ ⟨hHeld, BK170.out, BK171.out, BK172.out, BK173.out, BK185.out, GW185.out, GE185.out, NB170_185.out, NB185_170.out, NB171_185.out, NB185_171.out, NB172_185.out, NB185_172.out, NB173_185.out, NB185_173.out, (by repeat (first | (with_reducible first | exact HB.out | apply below_alloc | apply pw_below_drewN | apply below_drew1) | exact HB.out))⟩)
                                      · skip
                                        rintro gb185 w27 ⟨hS_, h0_, h1_, h2_, h3_, h4_, h5_, h6_, h7_, h8_, h9_, h10_, h11_, h12_, h13_, h14_, h15_⟩
                                        clear BK170 BK171 BK172 BK173 HB
                                        have BK170 := Aside0.mk h0_
                                        have BK171 := Aside0.mk h1_
                                        have BK172 := Aside0.mk h2_
                                        have BK173 := Aside0.mk h3_
                                        have BK185 := Aside0.mk h4_
                                        have GW185 := Aside0.mk h5_
                                        have GE185 := Aside0.mk h6_
                                        have NB170_185 := Aside0.mk h7_
                                        have NB185_170 := Aside0.mk h8_
                                        have NB171_185 := Aside0.mk h9_
                                        have NB185_171 := Aside0.mk h10_
                                        have NB172_185 := Aside0.mk h11_
                                        have NB185_172 := Aside0.mk h12_
                                        have NB173_185 := Aside0.mk h13_
                                        have NB185_173 := Aside0.mk h14_
                                        have HB := Aside0.mk h15_
                                        clear h0_ h1_ h2_ h3_ h4_ h5_ h6_ h7_ h8_ h9_ h10_ h11_ h12_ h13_ h14_ h15_
                                        have hHeld := hS_
                                        refine norm_ (a' := ?_) ?_ ?_
                                        rotate_left
                                        · simp only [putAll, Act.put, setIfInBounds_toArray, set_cons_zero, set_cons_succ]
                                          rfl
                                        refine one_ (i := 11) (N := some 26) (mk 63 2873153590845636607) rfl rfl (one_of HT_.out (by kernel_rfl)) (by decide) (fun K hK => ?_)
                                        refine goes_ Try.func21 (by kernel_rfl) rfl #[.int .i64 a0_1, .int .i64 a1_1, .int .u8 a4] (by rfl) rfl rfl (by (try simp only [List.map_toArray, List.map_cons, List.map_nil]); first | done | rfl | (simp only [List.length_drop, List.length_take]; rfl)) ?_
                                        with_reducible refine (millwrightlaw04_mid.calls a0_1 a1_1 a4 t176 _ A8.out).mono ?_
                                        rintro e w' ⟨rfl, ⟨nd, rfl⟩⟩
                                        refine ⟨_, rfl, ?_⟩
                                        refine hK.out _ _ (HS_of BK170.out BK171.out) (fun hHeld => ?_)
                                        clear hK K
                                        refine norm_ (a' := ?_) ?_ ?_
                                        rotate_left
                                        · show Act.put _ (some 26) _ = _
                                          simp only [Act.put, setIfInBounds_toArray, set_cons_zero, set_cons_succ, i64_w, i32_w]
                                          rfl
                                        exact norm_ (by simp only [putAll, Act.put, setIfInBounds_toArray, set_cons_zero, set_cons_succ] <;> rfl) (hJ5_11_61 (gb185) _ ⟨hHeld, BK170.out, BK171.out, BK172.out, BK173.out, BK185.out, GW185.out, GE185.out, NB170_185.out, NB185_170.out, NB171_185.out, NB185_171.out, NB172_185.out, NB185_172.out, NB173_185.out, NB185_173.out, (by repeat (first | (with_reducible first | exact HB.out | apply below_alloc | apply pw_below_drewN | apply below_drew1) | exact HB.out))⟩)
                                    · skip
                                      rintro _ w26 ⟨hS_, h0_, h1_, h2_, h3_, h4_⟩
                                      clear BK170 BK171 BK172 BK173 HB
                                      have BK170 := Aside0.mk h0_
                                      have BK171 := Aside0.mk h1_
                                      have BK172 := Aside0.mk h2_
                                      have BK173 := Aside0.mk h3_
                                      have HB := Aside0.mk h4_
                                      clear h0_ h1_ h2_ h3_ h4_
                                      have hHeld := hS_
                                      refine norm_ (a' := ?_) ?_ ?_
                                      rotate_left
                                      · simp only [putAll, Act.put, setIfInBounds_toArray, set_cons_zero, set_cons_succ]
                                        rfl
                                      refine two_ (i := 17) (j := 61) (Ni := some 32) (Nj := some 12) (mk 63 567310581632073727) (mk 63 2873153590845636607) rfl rfl rfl rfl (two_of HT_.out (by kernel_rfl)) (by decide) (by decide) (fun K hK => ?_) (fun K hK => ?_)
                                      · skip
                                        refine goes_ Try.func21 (by kernel_rfl) rfl #[.int .i64 a0_2, .int .i64 a1_2, .int .u8 a4] (by rfl) rfl rfl (by (try simp only [List.map_toArray, List.map_cons, List.map_nil]); first | done | rfl | (simp only [List.length_drop, List.length_take]; rfl)) ?_
                                        with_reducible refine (millwrightlaw04_mid.calls a0_2 a1_2 a4 t177 _ A9.out).mono ?_
                                        rintro e w' ⟨rfl, ⟨nd, rfl⟩⟩
                                        refine ⟨_, rfl, ?_⟩
                                        refine hK.out _ _ (HS_of BK170.out BK171.out) (fun hHeld => ?_)
                                        clear hK K
                                        refine norm_ (a' := ?_) ?_ ?_
                                        rotate_left
                                        · show Act.put _ (some 32) _ = _
                                          simp only [Act.put, setIfInBounds_toArray, set_cons_zero, set_cons_succ, i64_w, i32_w]
                                          rfl
                                        exact norm_ (by simp only [putAll, Act.put, setIfInBounds_toArray, set_cons_zero, set_cons_succ] <;> rfl) (hJ5_11_17 () _ ⟨hHeld, BK170.out, BK171.out, BK172.out, BK173.out, (by repeat (first | (with_reducible first | exact HB.out | apply below_alloc | apply pw_below_drewN | apply below_drew1) | exact HB.out))⟩)
                                      · skip
                                        refine box_step ?hg (N := 12) ?hd (cs := #[.int .i64 0, .int .i64 0, .int .i64 0, .int .i64 0, .int .i64 0, .int .i64 0, .int .i64 0, .int .i64 0, .int .i64 0, .int .i64 0]) (t := 23) ?hr ?_; (case hd => rfl); (case hg => rfl); (case hr => first | (go_simp; done) | (go_simp; rfl))
                                        intro gb185 hg w27 hbox hb
                                        have n0_ := Aside0.mk (blk_below (by exact BK170.out) hb)
                                        have n1_ := Aside0.mk (blk_below (by exact BK171.out) hb)
                                        have n2_ := Aside0.mk (blk_below (by exact BK172.out) hb)
                                        have n3_ := Aside0.mk (blk_below (by exact BK173.out) hb)
                                        have n4_ := Aside0.mk (below_step (by repeat (first | (with_reducible first | exact HB.out | apply below_alloc | apply pw_below_drewN | apply below_drew1) | exact HB.out)) hb)
                                        have n5_ := Aside0.mk (hbox)
                                        have n6_ := Aside0.mk ((by rw [hg]; exact (below_size (by repeat (first | (with_reducible first | exact HB.out | apply below_alloc | apply pw_below_drewN | apply below_drew1) | exact HB.out))) : w.heap.size ≤ gb185))
                                        have n7_ := Aside0.mk ((by rw [hg]; exact (below_size (by repeat (first | (with_reducible first | exact HB.out | apply below_alloc | apply pw_below_drewN | apply below_drew1) | exact HB.out))) : w.heap.size ≤ gb185))
                                        have n8_ := Aside0.mk ((by rw [hg]; exact Nat.ne_of_lt (blk_lt BK170.out) : gb170 ≠ gb185))
                                        have n9_ := Aside0.mk n8_.out.symm
                                        have n10_ := Aside0.mk ((by rw [hg]; exact Nat.ne_of_lt (blk_lt BK171.out) : gb171 ≠ gb185))
                                        have n11_ := Aside0.mk n10_.out.symm
                                        have n12_ := Aside0.mk ((by rw [hg]; exact Nat.ne_of_lt (blk_lt BK172.out) : gb172 ≠ gb185))
                                        have n13_ := Aside0.mk n12_.out.symm
                                        have n14_ := Aside0.mk ((by rw [hg]; exact Nat.ne_of_lt (blk_lt BK173.out) : gb173 ≠ gb185))
                                        have n15_ := Aside0.mk n14_.out.symm
                                        clear BK170
                                        clear BK171
                                        clear BK172
                                        clear BK173
                                        clear HB
                                        have BK170 := n0_
                                        have BK171 := n1_
                                        have BK172 := n2_
                                        have BK173 := n3_
                                        have HB := n4_
                                        have BK185 := n5_
                                        have GW185 := n6_
                                        have GE185 := n7_
                                        have NB170_185 := n8_
                                        have NB185_170 := n9_
                                        have NB171_185 := n10_
                                        have NB185_171 := n11_
                                        have NB172_185 := n12_
                                        have NB185_172 := n13_
                                        have NB173_185 := n14_
                                        have NB185_173 := n15_
                                        clear n0_ n1_ n2_ n3_ n4_ n5_ n6_ n7_ n8_ n9_ n10_ n11_ n12_ n13_ n14_ n15_
                                        clear hb hbox hg
                                        refine hK.out _ _ (HS_of BK170.out BK171.out) (fun hHeld => ?_)
                                        clear hK K
                                        refine norm_ (a' := ?_) ?_ ?_
                                        rotate_left
                                        · show Act.put _ (some 12) _ = _
                                          simp only [Act.put, setIfInBounds_toArray, set_cons_zero, set_cons_succ, i64_w, i32_w]
                                          rfl
                                        exact norm_ (by simp only [putAll, Act.put, setIfInBounds_toArray, set_cons_zero, set_cons_succ] <;> rfl) (hJ5_11_61 (gb185) _ ⟨hHeld, BK170.out, BK171.out, BK172.out, BK173.out, BK185.out, GW185.out, GE185.out, NB170_185.out, NB185_170.out, NB171_185.out, NB185_171.out, NB172_185.out, NB185_172.out, NB173_185.out, NB185_173.out, (by repeat (first | (with_reducible first | exact HB.out | apply below_alloc | apply pw_below_drewN | apply below_drew1) | exact HB.out))⟩)
                                  · skip
                                    rintro gb185 w27 ⟨hS_, h0_, h1_, h2_, h3_, h4_, h5_, h6_, h7_, h8_, h9_, h10_, h11_, h12_, h13_, h14_, h15_⟩
                                    clear BK170 BK171 BK172 BK173 HB
                                    have BK170 := Aside0.mk h0_
                                    have BK171 := Aside0.mk h1_
                                    have BK172 := Aside0.mk h2_
                                    have BK173 := Aside0.mk h3_
                                    have BK185 := Aside0.mk h4_
                                    have GW185 := Aside0.mk h5_
                                    have GE185 := Aside0.mk h6_
                                    have NB170_185 := Aside0.mk h7_
                                    have NB185_170 := Aside0.mk h8_
                                    have NB171_185 := Aside0.mk h9_
                                    have NB185_171 := Aside0.mk h10_
                                    have NB172_185 := Aside0.mk h11_
                                    have NB185_172 := Aside0.mk h12_
                                    have NB173_185 := Aside0.mk h13_
                                    have NB185_173 := Aside0.mk h14_
                                    have HB := Aside0.mk h15_
                                    clear h0_ h1_ h2_ h3_ h4_ h5_ h6_ h7_ h8_ h9_ h10_ h11_ h12_ h13_ h14_ h15_
                                    have hHeld := hS_
                                    refine norm_ (a' := ?_) ?_ ?_
                                    rotate_left
                                    · simp only [putAll, Act.put, setIfInBounds_toArray, set_cons_zero, set_cons_succ]
                                      rfl
                                    refine one_ (i := 17) (N := some 32) (mk 63 2873153590845767679) rfl rfl (one_of HT_.out (by kernel_rfl)) (by decide) (fun K hK => ?_)
                                    refine goes_ Try.func21 (by kernel_rfl) rfl #[.int .i64 a0_2, .int .i64 a1_2, .int .u8 a4] (by rfl) rfl rfl (by (try simp only [List.map_toArray, List.map_cons, List.map_nil]); first | done | rfl | (simp only [List.length_drop, List.length_take]; rfl)) ?_
                                    with_reducible refine (millwrightlaw04_mid.calls a0_2 a1_2 a4 t177 _ A9.out).mono ?_
                                    rintro e w' ⟨rfl, ⟨nd, rfl⟩⟩
                                    refine ⟨_, rfl, ?_⟩
                                    refine hK.out _ _ (HS_of BK170.out BK171.out) (fun hHeld => ?_)
                                    clear hK K
                                    refine norm_ (a' := ?_) ?_ ?_
                                    rotate_left
                                    · show Act.put _ (some 32) _ = _
                                      simp only [Act.put, setIfInBounds_toArray, set_cons_zero, set_cons_succ, i64_w, i32_w]
                                      rfl
                                    exact norm_ (by simp only [putAll, Act.put, setIfInBounds_toArray, set_cons_zero, set_cons_succ] <;> rfl) (hJ5_11_17_61 (gb185) _ ⟨hHeld, BK170.out, BK171.out, BK172.out, BK173.out, BK185.out, GW185.out, GE185.out, NB170_185.out, NB185_170.out, NB171_185.out, NB185_171.out, NB172_185.out, NB185_172.out, NB173_185.out, NB185_173.out, (by repeat (first | (with_reducible first | exact HB.out | apply below_alloc | apply pw_below_drewN | apply below_drew1) | exact HB.out))⟩)
                                · skip
                                  rintro _ w26 ⟨hS_, h0_, h1_, h2_, h3_, h4_⟩
                                  clear BK170 BK171 BK172 BK173 HB
                                  have BK170 := Aside0.mk h0_
                                  have BK171 := Aside0.mk h1_
                                  have BK172 := Aside0.mk h2_
                                  have BK173 := Aside0.mk h3_
                                  have HB := Aside0.mk h4_
                                  clear h0_ h1_ h2_ h3_ h4_
                                  have hHeld := hS_
                                  refine norm_ (a' := ?_) ?_ ?_
                                  rotate_left
                                  · simp only [putAll, Act.put, setIfInBounds_toArray, set_cons_zero, set_cons_succ]
                                    rfl
                                  refine two_ (i := 23) (j := 61) (Ni := some 38) (Nj := some 12) (mk 63 567310581640462335) (mk 63 2873153590845767679) rfl rfl rfl rfl (two_of HT_.out (by kernel_rfl)) (by decide) (by decide) (fun K hK => ?_) (fun K hK => ?_)
                                  · skip
                                    refine goes_ Try.func21 (by kernel_rfl) rfl #[.int .i64 a0_3, .int .i64 a1_3, .int .u8 a4] (by rfl) rfl rfl (by (try simp only [List.map_toArray, List.map_cons, List.map_nil]); first | done | rfl | (simp only [List.length_drop, List.length_take]; rfl)) ?_
                                    with_reducible refine (millwrightlaw04_mid.calls a0_3 a1_3 a4 t178 _ A10.out).mono ?_
                                    rintro e w' ⟨rfl, ⟨nd, rfl⟩⟩
                                    refine ⟨_, rfl, ?_⟩
                                    refine hK.out _ _ (HS_of BK170.out BK171.out) (fun hHeld => ?_)
                                    clear hK K
                                    refine norm_ (a' := ?_) ?_ ?_
                                    rotate_left
                                    · show Act.put _ (some 38) _ = _
                                      simp only [Act.put, setIfInBounds_toArray, set_cons_zero, set_cons_succ, i64_w, i32_w]
                                      rfl
                                    exact norm_ (by simp only [putAll, Act.put, setIfInBounds_toArray, set_cons_zero, set_cons_succ] <;> rfl) (hJ5_11_17_23 () _ ⟨hHeld, BK170.out, BK171.out, BK172.out, BK173.out, (by repeat (first | (with_reducible first | exact HB.out | apply below_alloc | apply pw_below_drewN | apply below_drew1) | exact HB.out))⟩)
                                  · skip
                                    refine box_step ?hg (N := 12) ?hd (cs := #[.int .i64 0, .int .i64 0, .int .i64 0, .int .i64 0, .int .i64 0, .int .i64 0, .int .i64 0, .int .i64 0, .int .i64 0, .int .i64 0]) (t := 23) ?hr ?_; (case hd => rfl); (case hg => rfl); (case hr => first | (go_simp; done) | (go_simp; rfl))
                                    intro gb185 hg w27 hbox hb
                                    have n0_ := Aside0.mk (blk_below (by exact BK170.out) hb)
                                    have n1_ := Aside0.mk (blk_below (by exact BK171.out) hb)
                                    have n2_ := Aside0.mk (blk_below (by exact BK172.out) hb)
                                    have n3_ := Aside0.mk (blk_below (by exact BK173.out) hb)
                                    have n4_ := Aside0.mk (below_step (by repeat (first | (with_reducible first | exact HB.out | apply below_alloc | apply pw_below_drewN | apply below_drew1) | exact HB.out)) hb)
                                    have n5_ := Aside0.mk (hbox)
                                    have n6_ := Aside0.mk ((by rw [hg]; exact (below_size (by repeat (first | (with_reducible first | exact HB.out | apply below_alloc | apply pw_below_drewN | apply below_drew1) | exact HB.out))) : w.heap.size ≤ gb185))
                                    have n7_ := Aside0.mk ((by rw [hg]; exact (below_size (by repeat (first | (with_reducible first | exact HB.out | apply below_alloc | apply pw_below_drewN | apply below_drew1) | exact HB.out))) : w.heap.size ≤ gb185))
                                    have n8_ := Aside0.mk ((by rw [hg]; exact Nat.ne_of_lt (blk_lt BK170.out) : gb170 ≠ gb185))
                                    have n9_ := Aside0.mk n8_.out.symm
                                    have n10_ := Aside0.mk ((by rw [hg]; exact Nat.ne_of_lt (blk_lt BK171.out) : gb171 ≠ gb185))
                                    have n11_ := Aside0.mk n10_.out.symm
                                    have n12_ := Aside0.mk ((by rw [hg]; exact Nat.ne_of_lt (blk_lt BK172.out) : gb172 ≠ gb185))
                                    have n13_ := Aside0.mk n12_.out.symm
                                    have n14_ := Aside0.mk ((by rw [hg]; exact Nat.ne_of_lt (blk_lt BK173.out) : gb173 ≠ gb185))
                                    have n15_ := Aside0.mk n14_.out.symm
                                    clear BK170
                                    clear BK171
                                    clear BK172
                                    clear BK173
                                    clear HB
                                    have BK170 := n0_
                                    have BK171 := n1_
                                    have BK172 := n2_
                                    have BK173 := n3_
                                    have HB := n4_
                                    have BK185 := n5_
                                    have GW185 := n6_
                                    have GE185 := n7_
                                    have NB170_185 := n8_
                                    have NB185_170 := n9_
                                    have NB171_185 := n10_
                                    have NB185_171 := n11_
                                    have NB172_185 := n12_
                                    have NB185_172 := n13_
                                    have NB173_185 := n14_
                                    have NB185_173 := n15_
                                    clear n0_ n1_ n2_ n3_ n4_ n5_ n6_ n7_ n8_ n9_ n10_ n11_ n12_ n13_ n14_ n15_
                                    clear hb hbox hg
                                    refine hK.out _ _ (HS_of BK170.out BK171.out) (fun hHeld => ?_)
                                    clear hK K
                                    refine norm_ (a' := ?_) ?_ ?_
                                    rotate_left
                                    · show Act.put _ (some 12) _ = _
                                      simp only [Act.put, setIfInBounds_toArray, set_cons_zero, set_cons_succ, i64_w, i32_w]
                                      rfl
                                    exact norm_ (by simp only [putAll, Act.put, setIfInBounds_toArray, set_cons_zero, set_cons_succ] <;> rfl) (hJ5_11_17_61 (gb185) _ ⟨hHeld, BK170.out, BK171.out, BK172.out, BK173.out, BK185.out, GW185.out, GE185.out, NB170_185.out, NB185_170.out, NB171_185.out, NB185_171.out, NB172_185.out, NB185_172.out, NB173_185.out, NB185_173.out, (by repeat (first | (with_reducible first | exact HB.out | apply below_alloc | apply pw_below_drewN | apply below_drew1) | exact HB.out))⟩)
                              · skip
                                rintro gb185 w27 ⟨hS_, h0_, h1_, h2_, h3_, h4_, h5_, h6_, h7_, h8_, h9_, h10_, h11_, h12_, h13_, h14_, h15_⟩
                                clear BK170 BK171 BK172 BK173 HB
                                have BK170 := Aside0.mk h0_
                                have BK171 := Aside0.mk h1_
                                have BK172 := Aside0.mk h2_
                                have BK173 := Aside0.mk h3_
                                have BK185 := Aside0.mk h4_
                                have GW185 := Aside0.mk h5_
                                have GE185 := Aside0.mk h6_
                                have NB170_185 := Aside0.mk h7_
                                have NB185_170 := Aside0.mk h8_
                                have NB171_185 := Aside0.mk h9_
                                have NB185_171 := Aside0.mk h10_
                                have NB172_185 := Aside0.mk h11_
                                have NB185_172 := Aside0.mk h12_
                                have NB173_185 := Aside0.mk h13_
                                have NB185_173 := Aside0.mk h14_
                                have HB := Aside0.mk h15_
                                clear h0_ h1_ h2_ h3_ h4_ h5_ h6_ h7_ h8_ h9_ h10_ h11_ h12_ h13_ h14_ h15_
                                have hHeld := hS_
                                refine norm_ (a' := ?_) ?_ ?_
                                rotate_left
                                · simp only [putAll, Act.put, setIfInBounds_toArray, set_cons_zero, set_cons_succ]
                                  rfl
                                refine one_ (i := 23) (N := some 38) (mk 63 2873153590854156287) rfl rfl (one_of HT_.out (by kernel_rfl)) (by decide) (fun K hK => ?_)
                                refine goes_ Try.func21 (by kernel_rfl) rfl #[.int .i64 a0_3, .int .i64 a1_3, .int .u8 a4] (by rfl) rfl rfl (by (try simp only [List.map_toArray, List.map_cons, List.map_nil]); first | done | rfl | (simp only [List.length_drop, List.length_take]; rfl)) ?_
                                with_reducible refine (millwrightlaw04_mid.calls a0_3 a1_3 a4 t178 _ A10.out).mono ?_
                                rintro e w' ⟨rfl, ⟨nd, rfl⟩⟩
                                refine ⟨_, rfl, ?_⟩
                                refine hK.out _ _ (HS_of BK170.out BK171.out) (fun hHeld => ?_)
                                clear hK K
                                refine norm_ (a' := ?_) ?_ ?_
                                rotate_left
                                · show Act.put _ (some 38) _ = _
                                  simp only [Act.put, setIfInBounds_toArray, set_cons_zero, set_cons_succ, i64_w, i32_w]
                                  rfl
                                exact norm_ (by simp only [putAll, Act.put, setIfInBounds_toArray, set_cons_zero, set_cons_succ] <;> rfl) (hJ5_11_17_23_61 (gb185) _ ⟨hHeld, BK170.out, BK171.out, BK172.out, BK173.out, BK185.out, GW185.out, GE185.out, NB170_185.out, NB185_170.out, NB171_185.out, NB185_171.out, NB172_185.out, NB185_172.out, NB173_185.out, NB185_173.out, (by repeat (first | (with_reducible first | exact HB.out | apply below_alloc | apply pw_below_drewN | apply below_drew1) | exact HB.out))⟩)
                            · skip
                              rintro _ w26 ⟨hS_, h0_, h1_, h2_, h3_, h4_⟩
                              clear BK170 BK171 BK172 BK173 HB
                              have BK170 := Aside0.mk h0_
                              have BK171 := Aside0.mk h1_
                              have BK172 := Aside0.mk h2_
                              have BK173 := Aside0.mk h3_
                              have HB := Aside0.mk h4_
                              clear h0_ h1_ h2_ h3_ h4_
                              have hHeld := hS_
                              refine norm_ (a' := ?_) ?_ ?_
                              rotate_left
                              · simp only [putAll, Act.put, setIfInBounds_toArray, set_cons_zero, set_cons_succ]
                                rfl
                              refine two_ (i := 29) (j := 61) (Ni := some 44) (Nj := some 12) (mk 63 567310582177333247) (mk 63 2873153590854156287) rfl rfl rfl rfl (two_of HT_.out (by kernel_rfl)) (by decide) (by decide) (fun K hK => ?_) (fun K hK => ?_)
                              · skip
                                refine goes_ Try.func21 (by kernel_rfl) rfl #[.int .i64 a0_4, .int .i64 a1_4, .int .u8 a4] (by rfl) rfl rfl (by (try simp only [List.map_toArray, List.map_cons, List.map_nil]); first | done | rfl | (simp only [List.length_drop, List.length_take]; rfl)) ?_
                                with_reducible refine (millwrightlaw04_mid.calls a0_4 a1_4 a4 t179 _ A11.out).mono ?_
                                rintro e w' ⟨rfl, ⟨nd, rfl⟩⟩
                                refine ⟨_, rfl, ?_⟩
                                refine hK.out _ _ (HS_of BK170.out BK171.out) (fun hHeld => ?_)
                                clear hK K
                                refine norm_ (a' := ?_) ?_ ?_
                                rotate_left
                                · show Act.put _ (some 44) _ = _
                                  simp only [Act.put, setIfInBounds_toArray, set_cons_zero, set_cons_succ, i64_w, i32_w]
                                  rfl
                                exact norm_ (by simp only [putAll, Act.put, setIfInBounds_toArray, set_cons_zero, set_cons_succ] <;> rfl) (hJ5_11_17_23_29 () _ ⟨hHeld, BK170.out, BK171.out, BK172.out, BK173.out, (by repeat (first | (with_reducible first | exact HB.out | apply below_alloc | apply pw_below_drewN | apply below_drew1) | exact HB.out))⟩)
                              · skip
                                refine box_step ?hg (N := 12) ?hd (cs := #[.int .i64 0, .int .i64 0, .int .i64 0, .int .i64 0, .int .i64 0, .int .i64 0, .int .i64 0, .int .i64 0, .int .i64 0, .int .i64 0]) (t := 23) ?hr ?_; (case hd => rfl); (case hg => rfl); (case hr => first | (go_simp; done) | (go_simp; rfl))
                                intro gb185 hg w27 hbox hb
                                have n0_ := Aside0.mk (blk_below (by exact BK170.out) hb)
                                have n1_ := Aside0.mk (blk_below (by exact BK171.out) hb)
                                have n2_ := Aside0.mk (blk_below (by exact BK172.out) hb)
                                have n3_ := Aside0.mk (blk_below (by exact BK173.out) hb)
                                have n4_ := Aside0.mk (below_step (by repeat (first | (with_reducible first | exact HB.out | apply below_alloc | apply pw_below_drewN | apply below_drew1) | exact HB.out)) hb)
                                have n5_ := Aside0.mk (hbox)
                                have n6_ := Aside0.mk ((by rw [hg]; exact (below_size (by repeat (first | (with_reducible first | exact HB.out | apply below_alloc | apply pw_below_drewN | apply below_drew1) | exact HB.out))) : w.heap.size ≤ gb185))
                                have n7_ := Aside0.mk ((by rw [hg]; exact (below_size (by repeat (first | (with_reducible first | exact HB.out | apply below_alloc | apply pw_below_drewN | apply below_drew1) | exact HB.out))) : w.heap.size ≤ gb185))
                                have n8_ := Aside0.mk ((by rw [hg]; exact Nat.ne_of_lt (blk_lt BK170.out) : gb170 ≠ gb185))
                                have n9_ := Aside0.mk n8_.out.symm
                                have n10_ := Aside0.mk ((by rw [hg]; exact Nat.ne_of_lt (blk_lt BK171.out) : gb171 ≠ gb185))
                                have n11_ := Aside0.mk n10_.out.symm
                                have n12_ := Aside0.mk ((by rw [hg]; exact Nat.ne_of_lt (blk_lt BK172.out) : gb172 ≠ gb185))
                                have n13_ := Aside0.mk n12_.out.symm
                                have n14_ := Aside0.mk ((by rw [hg]; exact Nat.ne_of_lt (blk_lt BK173.out) : gb173 ≠ gb185))
                                have n15_ := Aside0.mk n14_.out.symm
                                clear BK170
                                clear BK171
                                clear BK172
                                clear BK173
                                clear HB
                                have BK170 := n0_
                                have BK171 := n1_
                                have BK172 := n2_
                                have BK173 := n3_
                                have HB := n4_
                                have BK185 := n5_
                                have GW185 := n6_
                                have GE185 := n7_
                                have NB170_185 := n8_
                                have NB185_170 := n9_
                                have NB171_185 := n10_
                                have NB185_171 := n11_
                                have NB172_185 := n12_
                                have NB185_172 := n13_
                                have NB173_185 := n14_
                                have NB185_173 := n15_
                                clear n0_ n1_ n2_ n3_ n4_ n5_ n6_ n7_ n8_ n9_ n10_ n11_ n12_ n13_ n14_ n15_
                                clear hb hbox hg
                                refine hK.out _ _ (HS_of BK170.out BK171.out) (fun hHeld => ?_)
                                clear hK K
                                refine norm_ (a' := ?_) ?_ ?_
                                rotate_left
                                · show Act.put _ (some 12) _ = _
                                  simp only [Act.put, setIfInBounds_toArray, set_cons_zero, set_cons_succ, i64_w, i32_w]
                                  rfl
                                exact norm_ (by simp only [putAll, Act.put, setIfInBounds_toArray, set_cons_zero, set_cons_succ] <;> rfl) (hJ5_11_17_23_61 (gb185) _ ⟨hHeld, BK170.out, BK171.out, BK172.out, BK173.out, BK185.out, GW185.out, GE185.out, NB170_185.out, NB185_170.out, NB171_185.out, NB185_171.out, NB172_185.out, NB185_172.out, NB173_185.out, NB185_173.out, (by repeat (first | (with_reducible first | exact HB.out | apply below_alloc | apply pw_below_drewN | apply below_drew1) | exact HB.out))⟩)
                          · skip
                            rintro gb185 w27 ⟨hS_, h0_, h1_, h2_, h3_, h4_, h5_, h6_, h7_, h8_, h9_, h10_, h11_, h12_, h13_, h14_, h15_⟩
                            clear BK170 BK171 BK172 BK173 HB
                            have BK170 := Aside0.mk h0_
                            have BK171 := Aside0.mk h1_
                            have BK172 := Aside0.mk h2_
                            have BK173 := Aside0.mk h3_
                            have BK185 := Aside0.mk h4_
                            have GW185 := Aside0.mk h5_
                            have GE185 := Aside0.mk h6_
                            have NB170_185 := Aside0.mk h7_
                            have NB185_170 := Aside0.mk h8_
                            have NB171_185 := Aside0.mk h9_
                            have NB185_171 := Aside0.mk h10_
                            have NB172_185 := Aside0.mk h11_
                            have NB185_172 := Aside0.mk h12_
                            have NB173_185 := Aside0.mk h13_
                            have NB185_173 := Aside0.mk h14_
                            have HB := Aside0.mk h15_
                            clear h0_ h1_ h2_ h3_ h4_ h5_ h6_ h7_ h8_ h9_ h10_ h11_ h12_ h13_ h14_ h15_
                            have hHeld := hS_
                            refine norm_ (a' := ?_) ?_ ?_
                            rotate_left
                            · simp only [putAll, Act.put, setIfInBounds_toArray, set_cons_zero, set_cons_succ]
                              rfl
                            refine one_ (i := 29) (N := some 44) (mk 63 2873153591391027199) rfl rfl (one_of HT_.out (by kernel_rfl)) (by decide) (fun K hK => ?_)
                            refine goes_ Try.func21 (by kernel_rfl) rfl #[.int .i64 a0_4, .int .i64 a1_4, .int .u8 a4] (by rfl) rfl rfl (by (try simp only [List.map_toArray, List.map_cons, List.map_nil]); first | done | rfl | (simp only [List.length_drop, List.length_take]; rfl)) ?_
                            with_reducible refine (millwrightlaw04_mid.calls a0_4 a1_4 a4 t179 _ A11.out).mono ?_
                            rintro e w' ⟨rfl, ⟨nd, rfl⟩⟩
                            refine ⟨_, rfl, ?_⟩
                            refine hK.out _ _ (HS_of BK170.out BK171.out) (fun hHeld => ?_)
                            clear hK K
                            refine norm_ (a' := ?_) ?_ ?_
                            rotate_left
                            · show Act.put _ (some 44) _ = _
                              simp only [Act.put, setIfInBounds_toArray, set_cons_zero, set_cons_succ, i64_w, i32_w]
                              rfl
                            exact norm_ (by simp only [putAll, Act.put, setIfInBounds_toArray, set_cons_zero, set_cons_succ] <;> rfl) (hJ5_11_17_23_29_61 (gb185) _ ⟨hHeld, BK170.out, BK171.out, BK172.out, BK173.out, BK185.out, GW185.out, GE185.out, NB170_185.out, NB185_170.out, NB171_185.out, NB185_171.out, NB172_185.out, NB185_172.out, NB173_185.out, NB185_173.out, (by repeat (first | (with_reducible first | exact HB.out | apply below_alloc | apply pw_below_drewN | apply below_drew1) | exact HB.out))⟩)
                        · skip
                          rintro _ w26 ⟨hS_, h0_, h1_, h2_, h3_, h4_⟩
                          clear BK170 BK171 BK172 BK173 HB
                          have BK170 := Aside0.mk h0_
                          have BK171 := Aside0.mk h1_
                          have BK172 := Aside0.mk h2_
                          have BK173 := Aside0.mk h3_
                          have HB := Aside0.mk h4_
                          clear h0_ h1_ h2_ h3_ h4_
                          have hHeld := hS_
                          refine norm_ (a' := ?_) ?_ ?_
                          rotate_left
                          · simp only [putAll, Act.put, setIfInBounds_toArray, set_cons_zero, set_cons_succ]
                            rfl
                          refine two_ (i := 35) (j := 61) (Ni := some 50) (Nj := some 12) (mk 63 567310616537071615) (mk 63 2873153591391027199) rfl rfl rfl rfl (two_of HT_.out (by kernel_rfl)) (by decide) (by decide) (fun K hK => ?_) (fun K hK => ?_)
                          · skip
                            refine goes_ Try.func21 (by kernel_rfl) rfl #[.int .i64 a0_5, .int .i64 a1_5, .int .u8 a4] (by rfl) rfl rfl (by (try simp only [List.map_toArray, List.map_cons, List.map_nil]); first | done | rfl | (simp only [List.length_drop, List.length_take]; rfl)) ?_
                            with_reducible refine (millwrightlaw04_mid.calls a0_5 a1_5 a4 t180 _ A12.out).mono ?_
                            rintro e w' ⟨rfl, ⟨nd, rfl⟩⟩
                            refine ⟨_, rfl, ?_⟩
                            refine hK.out _ _ (HS_of BK170.out BK171.out) (fun hHeld => ?_)
                            clear hK K
                            refine norm_ (a' := ?_) ?_ ?_
                            rotate_left
                            · show Act.put _ (some 50) _ = _
                              simp only [Act.put, setIfInBounds_toArray, set_cons_zero, set_cons_succ, i64_w, i32_w]
                              rfl
                            exact norm_ (by simp only [putAll, Act.put, setIfInBounds_toArray, set_cons_zero, set_cons_succ] <;> rfl) (hJ5_11_17_23_29_35 () _ ⟨hHeld, BK170.out, BK171.out, BK172.out, BK173.out, (by repeat (first | (with_reducible first | exact HB.out | apply below_alloc | apply pw_below_drewN | apply below_drew1) | exact HB.out))⟩)
                          · skip
                            refine box_step ?hg (N := 12) ?hd (cs := #[.int .i64 0, .int .i64 0, .int .i64 0, .int .i64 0, .int .i64 0, .int .i64 0, .int .i64 0, .int .i64 0, .int .i64 0, .int .i64 0]) (t := 23) ?hr ?_; (case hd => rfl); (case hg => rfl); (case hr => first | (go_simp; done) | (go_simp; rfl))
                            intro gb185 hg w27 hbox hb
                            have n0_ := Aside0.mk (blk_below (by exact BK170.out) hb)
                            have n1_ := Aside0.mk (blk_below (by exact BK171.out) hb)
                            have n2_ := Aside0.mk (blk_below (by exact BK172.out) hb)
                            have n3_ := Aside0.mk (blk_below (by exact BK173.out) hb)
                            have n4_ := Aside0.mk (below_step (by repeat (first | (with_reducible first | exact HB.out | apply below_alloc | apply pw_below_drewN | apply below_drew1) | exact HB.out)) hb)
                            have n5_ := Aside0.mk (hbox)
                            have n6_ := Aside0.mk ((by rw [hg]; exact (below_size (by repeat (first | (with_reducible first | exact HB.out | apply below_alloc | apply pw_below_drewN | apply below_drew1) | exact HB.out))) : w.heap.size ≤ gb185))
                            have n7_ := Aside0.mk ((by rw [hg]; exact (below_size (by repeat (first | (with_reducible first | exact HB.out | apply below_alloc | apply pw_below_drewN | apply below_drew1) | exact HB.out))) : w.heap.size ≤ gb185))
                            have n8_ := Aside0.mk ((by rw [hg]; exact Nat.ne_of_lt (blk_lt BK170.out) : gb170 ≠ gb185))
                            have n9_ := Aside0.mk n8_.out.symm
                            have n10_ := Aside0.mk ((by rw [hg]; exact Nat.ne_of_lt (blk_lt BK171.out) : gb171 ≠ gb185))
                            have n11_ := Aside0.mk n10_.out.symm
                            have n12_ := Aside0.mk ((by rw [hg]; exact Nat.ne_of_lt (blk_lt BK172.out) : gb172 ≠ gb185))
                            have n13_ := Aside0.mk n12_.out.symm
                            have n14_ := Aside0.mk ((by rw [hg]; exact Nat.ne_of_lt (blk_lt BK173.out) : gb173 ≠ gb185))
                            have n15_ := Aside0.mk n14_.out.symm
                            clear BK170
                            clear BK171
                            clear BK172
                            clear BK173
                            clear HB
                            have BK170 := n0_
                            have BK171 := n1_
                            have BK172 := n2_
                            have BK173 := n3_
                            have HB := n4_
                            have BK185 := n5_
                            have GW185 := n6_
                            have GE185 := n7_
                            have NB170_185 := n8_
                            have NB185_170 := n9_
                            have NB171_185 := n10_
                            have NB185_171 := n11_
                            have NB172_185 := n12_
                            have NB185_172 := n13_
                            have NB173_185 := n14_
                            have NB185_173 := n15_
                            clear n0_ n1_ n2_ n3_ n4_ n5_ n6_ n7_ n8_ n9_ n10_ n11_ n12_ n13_ n14_ n15_
                            clear hb hbox hg
                            refine hK.out _ _ (HS_of BK170.out BK171.out) (fun hHeld => ?_)
                            clear hK K
                            refine norm_ (a' := ?_) ?_ ?_
                            rotate_left
                            · show Act.put _ (some 12) _ = _
                              simp only [Act.put, setIfInBounds_toArray, set_cons_zero, set_cons_succ, i64_w, i32_w]
                              rfl
                            exact norm_ (by simp only [putAll, Act.put, setIfInBounds_toArray, set_cons_zero, set_cons_succ] <;> rfl) (hJ5_11_17_23_29_61 (gb185) _ ⟨hHeld, BK170.out, BK171.out, BK172.out, BK173.out, BK185.out, GW185.out, GE185.out, NB170_185.out, NB185_170.out, NB171_185.out, NB185_171.out, NB172_185.out, NB185_172.out, NB173_185.out, NB185_173.out, (by repeat (first | (with_reducible first | exact HB.out | apply below_alloc | apply pw_below_drewN | apply below_drew1) | exact HB.out))⟩)
                      · skip
                        rintro gb185 w27 ⟨hS_, h0_, h1_, h2_, h3_, h4_, h5_, h6_, h7_, h8_, h9_, h10_, h11_, h12_, h13_, h14_, h15_⟩
                        clear BK170 BK171 BK172 BK173 HB
                        have BK170 := Aside0.mk h0_
                        have BK171 := Aside0.mk h1_
                        have BK172 := Aside0.mk h2_
                        have BK173 := Aside0.mk h3_
                        have BK185 := Aside0.mk h4_
                        have GW185 := Aside0.mk h5_
                        have GE185 := Aside0.mk h6_
                        have NB170_185 := Aside0.mk h7_
                        have NB185_170 := Aside0.mk h8_
                        have NB171_185 := Aside0.mk h9_
                        have NB185_171 := Aside0.mk h10_
                        have NB172_185 := Aside0.mk h11_
                        have NB185_172 := Aside0.mk h12_
                        have NB173_185 := Aside0.mk h13_
                        have NB185_173 := Aside0.mk h14_
                        have HB := Aside0.mk h15_
                        clear h0_ h1_ h2_ h3_ h4_ h5_ h6_ h7_ h8_ h9_ h10_ h11_ h12_ h13_ h14_ h15_
                        have hHeld := hS_
                        refine norm_ (a' := ?_) ?_ ?_
                        rotate_left
                        · simp only [putAll, Act.put, setIfInBounds_toArray, set_cons_zero, set_cons_succ]
                          rfl
                        refine one_ (i := 35) (N := some 50) (mk 63 2873153625750765567) rfl rfl (one_of HT_.out (by kernel_rfl)) (by decide) (fun K hK => ?_)
                        refine goes_ Try.func21 (by kernel_rfl) rfl #[.int .i64 a0_5, .int .i64 a1_5, .int .u8 a4] (by rfl) rfl rfl (by (try simp only [List.map_toArray, List.map_cons, List.map_nil]); first | done | rfl | (simp only [List.length_drop, List.length_take]; rfl)) ?_
                        with_reducible refine (millwrightlaw04_mid.calls a0_5 a1_5 a4 t180 _ A12.out).mono ?_
                        rintro e w' ⟨rfl, ⟨nd, rfl⟩⟩
                        refine ⟨_, rfl, ?_⟩
                        refine hK.out _ _ (HS_of BK170.out BK171.out) (fun hHeld => ?_)
                        clear hK K
                        refine norm_ (a' := ?_) ?_ ?_
                        rotate_left
                        · show Act.put _ (some 50) _ = _
                          simp only [Act.put, setIfInBounds_toArray, set_cons_zero, set_cons_succ, i64_w, i32_w]
                          rfl
                        exact norm_ (by simp only [putAll, Act.put, setIfInBounds_toArray, set_cons_zero, set_cons_succ] <;> rfl) (hJ5_11_17_23_29_35_61 (gb185) _ ⟨hHeld, BK170.out, BK171.out, BK172.out, BK173.out, BK185.out, GW185.out, GE185.out, NB170_185.out, NB185_170.out, NB171_185.out, NB185_171.out, NB172_185.out, NB185_172.out, NB173_185.out, NB185_173.out, (by repeat (first | (with_reducible first | exact HB.out | apply below_alloc | apply pw_below_drewN | apply below_drew1) | exact HB.out))⟩)
                    · skip
                      rintro _ w26 ⟨hS_, h0_, h1_, h2_, h3_, h4_⟩
                      clear BK170 BK171 BK172 BK173 HB
                      have BK170 := Aside0.mk h0_
                      have BK171 := Aside0.mk h1_
                      have BK172 := Aside0.mk h2_
                      have BK173 := Aside0.mk h3_
                      have HB := Aside0.mk h4_
                      clear h0_ h1_ h2_ h3_ h4_
                      have hHeld := hS_
                      refine norm_ (a' := ?_) ?_ ?_
                      rotate_left
                      · simp only [putAll, Act.put, setIfInBounds_toArray, set_cons_zero, set_cons_succ]
                        rfl
                      refine two_ (i := 41) (j := 61) (Ni := some 56) (Nj := some 12) (mk 63 567312815560327167) (mk 63 2873153625750765567) rfl rfl rfl rfl (two_of HT_.out (by kernel_rfl)) (by decide) (by decide) (fun K hK => ?_) (fun K hK => ?_)
                      · skip
                        refine goes_ Try.func21 (by kernel_rfl) rfl #[.int .i64 a0_6, .int .i64 a1_6, .int .u8 a4] (by rfl) rfl rfl (by (try simp only [List.map_toArray, List.map_cons, List.map_nil]); first | done | rfl | (simp only [List.length_drop, List.length_take]; rfl)) ?_
                        with_reducible refine (millwrightlaw04_mid.calls a0_6 a1_6 a4 t181 _ A13.out).mono ?_
                        rintro e w' ⟨rfl, ⟨nd, rfl⟩⟩
                        refine ⟨_, rfl, ?_⟩
                        refine hK.out _ _ (HS_of BK170.out BK171.out) (fun hHeld => ?_)
                        clear hK K
                        refine norm_ (a' := ?_) ?_ ?_
                        rotate_left
                        · show Act.put _ (some 56) _ = _
                          simp only [Act.put, setIfInBounds_toArray, set_cons_zero, set_cons_succ, i64_w, i32_w]
                          rfl
                        exact norm_ (by simp only [putAll, Act.put, setIfInBounds_toArray, set_cons_zero, set_cons_succ] <;> rfl) (hJ5_11_17_23_29_35_41 () _ ⟨hHeld, BK170.out, BK171.out, BK172.out, BK173.out, (by repeat (first | (with_reducible first | exact HB.out | apply below_alloc | apply pw_below_drewN | apply below_drew1) | exact HB.out))⟩)
                      · skip
                        refine box_step ?hg (N := 12) ?hd (cs := #[.int .i64 0, .int .i64 0, .int .i64 0, .int .i64 0, .int .i64 0, .int .i64 0, .int .i64 0, .int .i64 0, .int .i64 0, .int .i64 0]) (t := 23) ?hr ?_; (case hd => rfl); (case hg => rfl); (case hr => first | (go_simp; done) | (go_simp; rfl))
                        intro gb185 hg w27 hbox hb
                        have n0_ := Aside0.mk (blk_below (by exact BK170.out) hb)
                        have n1_ := Aside0.mk (blk_below (by exact BK171.out) hb)
                        have n2_ := Aside0.mk (blk_below (by exact BK172.out) hb)
                        have n3_ := Aside0.mk (blk_below (by exact BK173.out) hb)
                        have n4_ := Aside0.mk (below_step (by repeat (first | (with_reducible first | exact HB.out | apply below_alloc | apply pw_below_drewN | apply below_drew1) | exact HB.out)) hb)
                        have n5_ := Aside0.mk (hbox)
                        have n6_ := Aside0.mk ((by rw [hg]; exact (below_size (by repeat (first | (with_reducible first | exact HB.out | apply below_alloc | apply pw_below_drewN | apply below_drew1) | exact HB.out))) : w.heap.size ≤ gb185))
                        have n7_ := Aside0.mk ((by rw [hg]; exact (below_size (by repeat (first | (with_reducible first | exact HB.out | apply below_alloc | apply pw_below_drewN | apply below_drew1) | exact HB.out))) : w.heap.size ≤ gb185))
                        have n8_ := Aside0.mk ((by rw [hg]; exact Nat.ne_of_lt (blk_lt BK170.out) : gb170 ≠ gb185))
                        have n9_ := Aside0.mk n8_.out.symm
                        have n10_ := Aside0.mk ((by rw [hg]; exact Nat.ne_of_lt (blk_lt BK171.out) : gb171 ≠ gb185))
                        have n11_ := Aside0.mk n10_.out.symm
                        have n12_ := Aside0.mk ((by rw [hg]; exact Nat.ne_of_lt (blk_lt BK172.out) : gb172 ≠ gb185))
                        have n13_ := Aside0.mk n12_.out.symm
                        have n14_ := Aside0.mk ((by rw [hg]; exact Nat.ne_of_lt (blk_lt BK173.out) : gb173 ≠ gb185))
                        have n15_ := Aside0.mk n14_.out.symm
                        clear BK170
                        clear BK171
                        clear BK172
                        clear BK173
                        clear HB
                        have BK170 := n0_
                        have BK171 := n1_
                        have BK172 := n2_
                        have BK173 := n3_
                        have HB := n4_
                        have BK185 := n5_
                        have GW185 := n6_
                        have GE185 := n7_
                        have NB170_185 := n8_
                        have NB185_170 := n9_
                        have NB171_185 := n10_
                        have NB185_171 := n11_
                        have NB172_185 := n12_
                        have NB185_172 := n13_
                        have NB173_185 := n14_
                        have NB185_173 := n15_
                        clear n0_ n1_ n2_ n3_ n4_ n5_ n6_ n7_ n8_ n9_ n10_ n11_ n12_ n13_ n14_ n15_
                        clear hb hbox hg
                        refine hK.out _ _ (HS_of BK170.out BK171.out) (fun hHeld => ?_)
                        clear hK K
                        refine norm_ (a' := ?_) ?_ ?_
                        rotate_left
                        · show Act.put _ (some 12) _ = _
                          simp only [Act.put, setIfInBounds_toArray, set_cons_zero, set_cons_succ, i64_w, i32_w]
                          rfl
                        exact norm_ (by simp only [putAll, Act.put, setIfInBounds_toArray, set_cons_zero, set_cons_succ] <;> rfl) (hJ5_11_17_23_29_35_61 (gb185) _ ⟨hHeld, BK170.out, BK171.out, BK172.out, BK173.out, BK185.out, GW185.out, GE185.out, NB170_185.out, NB185_170.out, NB171_185.out, NB185_171.out, NB172_185.out, NB185_172.out, NB173_185.out, NB185_173.out, (by repeat (first | (with_reducible first | exact HB.out | apply below_alloc | apply pw_below_drewN | apply below_drew1) | exact HB.out))⟩)
                  · skip
                    rintro gb185 w27 ⟨hS_, h0_, h1_, h2_, h3_, h4_, h5_, h6_, h7_, h8_, h9_, h10_, h11_, h12_, h13_, h14_, h15_⟩
                    clear BK170 BK171 BK172 BK173 HB
                    have BK170 := Aside0.mk h0_
                    have BK171 := Aside0.mk h1_
                    have BK172 := Aside0.mk h2_
                    have BK173 := Aside0.mk h3_
                    have BK185 := Aside0.mk h4_
                    have GW185 := Aside0.mk h5_
                    have GE185 := Aside0.mk h6_
                    have NB170_185 := Aside0.mk h7_
                    have NB185_170 := Aside0.mk h8_
                    have NB171_185 := Aside0.mk h9_
                    have NB185_171 := Aside0.mk h10_
                    have NB172_185 := Aside0.mk h11_
                    have NB185_172 := Aside0.mk h12_
                    have NB173_185 := Aside0.mk h13_
                    have NB185_173 := Aside0.mk h14_
                    have HB := Aside0.mk h15_
                    clear h0_ h1_ h2_ h3_ h4_ h5_ h6_ h7_ h8_ h9_ h10_ h11_ h12_ h13_ h14_ h15_
                    have hHeld := hS_
                    refine norm_ (a' := ?_) ?_ ?_
                    rotate_left
                    · simp only [putAll, Act.put, setIfInBounds_toArray, set_cons_zero, set_cons_succ]
                      rfl
                    refine one_ (i := 41) (N := some 56) (mk 63 2873155824774021119) rfl rfl (one_of HT_.out (by kernel_rfl)) (by decide) (fun K hK => ?_)
                    refine goes_ Try.func21 (by kernel_rfl) rfl #[.int .i64 a0_6, .int .i64 a1_6, .int .u8 a4] (by rfl) rfl rfl (by (try simp only [List.map_toArray, List.map_cons, List.map_nil]); first | done | rfl | (simp only [List.length_drop, List.length_take]; rfl)) ?_
                    with_reducible refine (millwrightlaw04_mid.calls a0_6 a1_6 a4 t181 _ A13.out).mono ?_
                    rintro e w' ⟨rfl, ⟨nd, rfl⟩⟩
                    refine ⟨_, rfl, ?_⟩
                    refine hK.out _ _ (HS_of BK170.out BK171.out) (fun hHeld => ?_)
                    clear hK K
                    refine norm_ (a' := ?_) ?_ ?_
                    rotate_left
                    · show Act.put _ (some 56) _ = _
                      simp only [Act.put, setIfInBounds_toArray, set_cons_zero, set_cons_succ, i64_w, i32_w]
                      rfl
                    exact norm_ (by simp only [putAll, Act.put, setIfInBounds_toArray, set_cons_zero, set_cons_succ] <;> rfl) (hJ5_11_17_23_29_35_41_61 (gb185) _ ⟨hHeld, BK170.out, BK171.out, BK172.out, BK173.out, BK185.out, GW185.out, GE185.out, NB170_185.out, NB185_170.out, NB171_185.out, NB185_171.out, NB172_185.out, NB185_172.out, NB173_185.out, NB185_173.out, (by repeat (first | (with_reducible first | exact HB.out | apply below_alloc | apply pw_below_drewN | apply below_drew1) | exact HB.out))⟩)
                · skip
                  rintro _ w26 ⟨hS_, h0_, h1_, h2_, h3_, h4_⟩
                  clear BK170 BK171 BK172 BK173 HB
                  have BK170 := Aside0.mk h0_
                  have BK171 := Aside0.mk h1_
                  have BK172 := Aside0.mk h2_
                  have BK173 := Aside0.mk h3_
                  have HB := Aside0.mk h4_
                  clear h0_ h1_ h2_ h3_ h4_
                  have hHeld := hS_
                  refine norm_ (a' := ?_) ?_ ?_
                  rotate_left
                  · simp only [putAll, Act.put, setIfInBounds_toArray, set_cons_zero, set_cons_succ]
                    rfl
                  refine two_ (i := 47) (j := 61) (Ni := some 62) (Nj := some 12) (mk 63 567453553048682495) (mk 63 2873155824774021119) rfl rfl rfl rfl (two_of HT_.out (by kernel_rfl)) (by decide) (by decide) (fun K hK => ?_) (fun K hK => ?_)
                  · skip
                    refine goes_ Try.func21 (by kernel_rfl) rfl #[.int .i64 a0_7, .int .i64 a1_7, .int .u8 a4] (by rfl) rfl rfl (by (try simp only [List.map_toArray, List.map_cons, List.map_nil]); first | done | rfl | (simp only [List.length_drop, List.length_take]; rfl)) ?_
                    with_reducible refine (millwrightlaw04_mid.calls a0_7 a1_7 a4 t182 _ A14.out).mono ?_
                    rintro e w' ⟨rfl, ⟨nd, rfl⟩⟩
                    refine ⟨_, rfl, ?_⟩
                    refine hK.out _ _ (HS_of BK170.out BK171.out) (fun hHeld => ?_)
                    clear hK K
                    refine norm_ (a' := ?_) ?_ ?_
                    rotate_left
                    · show Act.put _ (some 62) _ = _
                      simp only [Act.put, setIfInBounds_toArray, set_cons_zero, set_cons_succ, i64_w, i32_w]
                      rfl
                    exact norm_ (by simp only [putAll, Act.put, setIfInBounds_toArray, set_cons_zero, set_cons_succ] <;> rfl) (hJ5_11_17_23_29_35_41_47 () _ ⟨hHeld, BK170.out, BK171.out, BK172.out, BK173.out, (by repeat (first | (with_reducible first | exact HB.out | apply below_alloc | apply pw_below_drewN | apply below_drew1) | exact HB.out))⟩)
                  · skip
                    refine box_step ?hg (N := 12) ?hd (cs := #[.int .i64 0, .int .i64 0, .int .i64 0, .int .i64 0, .int .i64 0, .int .i64 0, .int .i64 0, .int .i64 0, .int .i64 0, .int .i64 0]) (t := 23) ?hr ?_; (case hd => rfl); (case hg => rfl); (case hr => first | (go_simp; done) | (go_simp; rfl))
                    intro gb185 hg w27 hbox hb
                    have n0_ := Aside0.mk (blk_below (by exact BK170.out) hb)
                    have n1_ := Aside0.mk (blk_below (by exact BK171.out) hb)
                    have n2_ := Aside0.mk (blk_below (by exact BK172.out) hb)
                    have n3_ := Aside0.mk (blk_below (by exact BK173.out) hb)
                    have n4_ := Aside0.mk (below_step (by repeat (first | (with_reducible first | exact HB.out | apply below_alloc | apply pw_below_drewN | apply below_drew1) | exact HB.out)) hb)
                    have n5_ := Aside0.mk (hbox)
                    have n6_ := Aside0.mk ((by rw [hg]; exact (below_size (by repeat (first | (with_reducible first | exact HB.out | apply below_alloc | apply pw_below_drewN | apply below_drew1) | exact HB.out))) : w.heap.size ≤ gb185))
                    have n7_ := Aside0.mk ((by rw [hg]; exact (below_size (by repeat (first | (with_reducible first | exact HB.out | apply below_alloc | apply pw_below_drewN | apply below_drew1) | exact HB.out))) : w.heap.size ≤ gb185))
                    have n8_ := Aside0.mk ((by rw [hg]; exact Nat.ne_of_lt (blk_lt BK170.out) : gb170 ≠ gb185))
                    have n9_ := Aside0.mk n8_.out.symm
                    have n10_ := Aside0.mk ((by rw [hg]; exact Nat.ne_of_lt (blk_lt BK171.out) : gb171 ≠ gb185))
                    have n11_ := Aside0.mk n10_.out.symm
                    have n12_ := Aside0.mk ((by rw [hg]; exact Nat.ne_of_lt (blk_lt BK172.out) : gb172 ≠ gb185))
                    have n13_ := Aside0.mk n12_.out.symm
                    have n14_ := Aside0.mk ((by rw [hg]; exact Nat.ne_of_lt (blk_lt BK173.out) : gb173 ≠ gb185))
                    have n15_ := Aside0.mk n14_.out.symm
                    clear BK170
                    clear BK171
                    clear BK172
                    clear BK173
                    clear HB
                    have BK170 := n0_
                    have BK171 := n1_
                    have BK172 := n2_
                    have BK173 := n3_
                    have HB := n4_
                    have BK185 := n5_
                    have GW185 := n6_
                    have GE185 := n7_
                    have NB170_185 := n8_
                    have NB185_170 := n9_
                    have NB171_185 := n10_
                    have NB185_171 := n11_
                    have NB172_185 := n12_
                    have NB185_172 := n13_
                    have NB173_185 := n14_
                    have NB185_173 := n15_
                    clear n0_ n1_ n2_ n3_ n4_ n5_ n6_ n7_ n8_ n9_ n10_ n11_ n12_ n13_ n14_ n15_
                    clear hb hbox hg
                    refine hK.out _ _ (HS_of BK170.out BK171.out) (fun hHeld => ?_)
                    clear hK K
                    refine norm_ (a' := ?_) ?_ ?_
                    rotate_left
                    · show Act.put _ (some 12) _ = _
                      simp only [Act.put, setIfInBounds_toArray, set_cons_zero, set_cons_succ, i64_w, i32_w]
                      rfl
                    exact norm_ (by simp only [putAll, Act.put, setIfInBounds_toArray, set_cons_zero, set_cons_succ] <;> rfl) (hJ5_11_17_23_29_35_41_61 (gb185) _ ⟨hHeld, BK170.out, BK171.out, BK172.out, BK173.out, BK185.out, GW185.out, GE185.out, NB170_185.out, NB185_170.out, NB171_185.out, NB185_171.out, NB172_185.out, NB185_172.out, NB173_185.out, NB185_173.out, (by repeat (first | (with_reducible first | exact HB.out | apply below_alloc | apply pw_below_drewN | apply below_drew1) | exact HB.out))⟩)
              · skip
                rintro gb185 w27 ⟨hS_, h0_, h1_, h2_, h3_, h4_, h5_, h6_, h7_, h8_, h9_, h10_, h11_, h12_, h13_, h14_, h15_⟩
                clear BK170 BK171 BK172 BK173 HB
                have BK170 := Aside0.mk h0_
                have BK171 := Aside0.mk h1_
                have BK172 := Aside0.mk h2_
                have BK173 := Aside0.mk h3_
                have BK185 := Aside0.mk h4_
                have GW185 := Aside0.mk h5_
                have GE185 := Aside0.mk h6_
                have NB170_185 := Aside0.mk h7_
                have NB185_170 := Aside0.mk h8_
                have NB171_185 := Aside0.mk h9_
                have NB185_171 := Aside0.mk h10_
                have NB172_185 := Aside0.mk h11_
                have NB185_172 := Aside0.mk h12_
                have NB173_185 := Aside0.mk h13_
                have NB185_173 := Aside0.mk h14_
                have HB := Aside0.mk h15_
                clear h0_ h1_ h2_ h3_ h4_ h5_ h6_ h7_ h8_ h9_ h10_ h11_ h12_ h13_ h14_ h15_
                have hHeld := hS_
                refine norm_ (a' := ?_) ?_ ?_
                rotate_left
                · simp only [putAll, Act.put, setIfInBounds_toArray, set_cons_zero, set_cons_succ]
                  rfl
                refine one_ (i := 47) (N := some 62) (mk 63 2873296562262376447) rfl rfl (one_of HT_.out (by kernel_rfl)) (by decide) (fun K hK => ?_)
                refine goes_ Try.func21 (by kernel_rfl) rfl #[.int .i64 a0_7, .int .i64 a1_7, .int .u8 a4] (by rfl) rfl rfl (by (try simp only [List.map_toArray, List.map_cons, List.map_nil]); first | done | rfl | (simp only [List.length_drop, List.length_take]; rfl)) ?_
                with_reducible refine (millwrightlaw04_mid.calls a0_7 a1_7 a4 t182 _ A14.out).mono ?_
                rintro e w' ⟨rfl, ⟨nd, rfl⟩⟩
                refine ⟨_, rfl, ?_⟩
                refine hK.out _ _ (HS_of BK170.out BK171.out) (fun hHeld => ?_)
                clear hK K
                refine norm_ (a' := ?_) ?_ ?_
                rotate_left
                · show Act.put _ (some 62) _ = _
                  simp only [Act.put, setIfInBounds_toArray, set_cons_zero, set_cons_succ, i64_w, i32_w]
                  rfl
                exact norm_ (by simp only [putAll, Act.put, setIfInBounds_toArray, set_cons_zero, set_cons_succ] <;> rfl) (hJ5_11_17_23_29_35_41_47_61 (gb185) _ ⟨hHeld, BK170.out, BK171.out, BK172.out, BK173.out, BK185.out, GW185.out, GE185.out, NB170_185.out, NB185_170.out, NB171_185.out, NB185_171.out, NB172_185.out, NB185_172.out, NB173_185.out, NB185_173.out, (by repeat (first | (with_reducible first | exact HB.out | apply below_alloc | apply pw_below_drewN | apply below_drew1) | exact HB.out))⟩)
            · skip
              rintro _ w26 ⟨hS_, h0_, h1_, h2_, h3_, h4_⟩
              clear BK170 BK171 BK172 BK173 HB
              have BK170 := Aside0.mk h0_
              have BK171 := Aside0.mk h1_
              have BK172 := Aside0.mk h2_
              have BK173 := Aside0.mk h3_
              have HB := Aside0.mk h4_
              clear h0_ h1_ h2_ h3_ h4_
              have hHeld := hS_
              refine norm_ (a' := ?_) ?_ ?_
              rotate_left
              · simp only [putAll, Act.put, setIfInBounds_toArray, set_cons_zero, set_cons_succ]
                rfl
              refine two_ (i := 53) (j := 61) (Ni := some 68) (Nj := some 12) (mk 63 576460752303423487) (mk 63 2873296562262376447) rfl rfl rfl rfl (two_of HT_.out (by kernel_rfl)) (by decide) (by decide) (fun K hK => ?_) (fun K hK => ?_)
              · skip
                refine goes_ Try.func21 (by kernel_rfl) rfl #[.int .i64 a0_8, .int .i64 a1_8, .int .u8 a4] (by rfl) rfl rfl (by (try simp only [List.map_toArray, List.map_cons, List.map_nil]); first | done | rfl | (simp only [List.length_drop, List.length_take]; rfl)) ?_
                with_reducible refine (millwrightlaw04_mid.calls a0_8 a1_8 a4 t183 _ A15.out).mono ?_
                rintro e w' ⟨rfl, ⟨nd, rfl⟩⟩
                refine ⟨_, rfl, ?_⟩
                refine hK.out _ _ (HS_of BK170.out BK171.out) (fun hHeld => ?_)
                clear hK K
                refine norm_ (a' := ?_) ?_ ?_
                rotate_left
                · show Act.put _ (some 68) _ = _
                  simp only [Act.put, setIfInBounds_toArray, set_cons_zero, set_cons_succ, i64_w, i32_w]
                  rfl
                exact norm_ (by simp only [putAll, Act.put, setIfInBounds_toArray, set_cons_zero, set_cons_succ] <;> rfl) (hJ5_11_17_23_29_35_41_47_53 () _ ⟨hHeld, BK170.out, BK171.out, BK172.out, BK173.out, (by repeat (first | (with_reducible first | exact HB.out | apply below_alloc | apply pw_below_drewN | apply below_drew1) | exact HB.out))⟩)
              · skip
                refine box_step ?hg (N := 12) ?hd (cs := #[.int .i64 0, .int .i64 0, .int .i64 0, .int .i64 0, .int .i64 0, .int .i64 0, .int .i64 0, .int .i64 0, .int .i64 0, .int .i64 0]) (t := 23) ?hr ?_; (case hd => rfl); (case hg => rfl); (case hr => first | (go_simp; done) | (go_simp; rfl))
                intro gb185 hg w27 hbox hb
                have n0_ := Aside0.mk (blk_below (by exact BK170.out) hb)
                have n1_ := Aside0.mk (blk_below (by exact BK171.out) hb)
                have n2_ := Aside0.mk (blk_below (by exact BK172.out) hb)
                have n3_ := Aside0.mk (blk_below (by exact BK173.out) hb)
                have n4_ := Aside0.mk (below_step (by repeat (first | (with_reducible first | exact HB.out | apply below_alloc | apply pw_below_drewN | apply below_drew1) | exact HB.out)) hb)
                have n5_ := Aside0.mk (hbox)
                have n6_ := Aside0.mk ((by rw [hg]; exact (below_size (by repeat (first | (with_reducible first | exact HB.out | apply below_alloc | apply pw_below_drewN | apply below_drew1) | exact HB.out))) : w.heap.size ≤ gb185))
                have n7_ := Aside0.mk ((by rw [hg]; exact (below_size (by repeat (first | (with_reducible first | exact HB.out | apply below_alloc | apply pw_below_drewN | apply below_drew1) | exact HB.out))) : w.heap.size ≤ gb185))
                have n8_ := Aside0.mk ((by rw [hg]; exact Nat.ne_of_lt (blk_lt BK170.out) : gb170 ≠ gb185))
                have n9_ := Aside0.mk n8_.out.symm
                have n10_ := Aside0.mk ((by rw [hg]; exact Nat.ne_of_lt (blk_lt BK171.out) : gb171 ≠ gb185))
                have n11_ := Aside0.mk n10_.out.symm
                have n12_ := Aside0.mk ((by rw [hg]; exact Nat.ne_of_lt (blk_lt BK172.out) : gb172 ≠ gb185))
                have n13_ := Aside0.mk n12_.out.symm
                have n14_ := Aside0.mk ((by rw [hg]; exact Nat.ne_of_lt (blk_lt BK173.out) : gb173 ≠ gb185))
                have n15_ := Aside0.mk n14_.out.symm
                clear BK170
                clear BK171
                clear BK172
                clear BK173
                clear HB
                have BK170 := n0_
                have BK171 := n1_
                have BK172 := n2_
                have BK173 := n3_
                have HB := n4_
                have BK185 := n5_
                have GW185 := n6_
                have GE185 := n7_
                have NB170_185 := n8_
                have NB185_170 := n9_
                have NB171_185 := n10_
                have NB185_171 := n11_
                have NB172_185 := n12_
                have NB185_172 := n13_
                have NB173_185 := n14_
                have NB185_173 := n15_
                clear n0_ n1_ n2_ n3_ n4_ n5_ n6_ n7_ n8_ n9_ n10_ n11_ n12_ n13_ n14_ n15_
                clear hb hbox hg
                refine hK.out _ _ (HS_of BK170.out BK171.out) (fun hHeld => ?_)
                clear hK K
                refine norm_ (a' := ?_) ?_ ?_
                rotate_left
                · show Act.put _ (some 12) _ = _
                  simp only [Act.put, setIfInBounds_toArray, set_cons_zero, set_cons_succ, i64_w, i32_w]
                  rfl
                exact norm_ (by simp only [putAll, Act.put, setIfInBounds_toArray, set_cons_zero, set_cons_succ] <;> rfl) (hJ5_11_17_23_29_35_41_47_61 (gb185) _ ⟨hHeld, BK170.out, BK171.out, BK172.out, BK173.out, BK185.out, GW185.out, GE185.out, NB170_185.out, NB185_170.out, NB171_185.out, NB185_171.out, NB172_185.out, NB185_172.out, NB173_185.out, NB185_173.out, (by repeat (first | (with_reducible first | exact HB.out | apply below_alloc | apply pw_below_drewN | apply below_drew1) | exact HB.out))⟩)
          · skip
            rintro gb185 w27 ⟨hS_, h0_, h1_, h2_, h3_, h4_, h5_, h6_, h7_, h8_, h9_, h10_, h11_, h12_, h13_, h14_, h15_⟩
            clear BK170 BK171 BK172 BK173 HB
            have BK170 := Aside0.mk h0_
            have BK171 := Aside0.mk h1_
            have BK172 := Aside0.mk h2_
            have BK173 := Aside0.mk h3_
            have BK185 := Aside0.mk h4_
            have GW185 := Aside0.mk h5_
            have GE185 := Aside0.mk h6_
            have NB170_185 := Aside0.mk h7_
            have NB185_170 := Aside0.mk h8_
            have NB171_185 := Aside0.mk h9_
            have NB185_171 := Aside0.mk h10_
            have NB172_185 := Aside0.mk h11_
            have NB185_172 := Aside0.mk h12_
            have NB173_185 := Aside0.mk h13_
            have NB185_173 := Aside0.mk h14_
            have HB := Aside0.mk h15_
            clear h0_ h1_ h2_ h3_ h4_ h5_ h6_ h7_ h8_ h9_ h10_ h11_ h12_ h13_ h14_ h15_
            have hHeld := hS_
            refine norm_ (a' := ?_) ?_ ?_
            rotate_left
            · simp only [putAll, Act.put, setIfInBounds_toArray, set_cons_zero, set_cons_succ]
              rfl
            refine one_ (i := 53) (N := some 68) (mk 63 2882303761517117439) rfl rfl (one_of HT_.out (by kernel_rfl)) (by decide) (fun K hK => ?_)
            refine goes_ Try.func21 (by kernel_rfl) rfl #[.int .i64 a0_8, .int .i64 a1_8, .int .u8 a4] (by rfl) rfl rfl (by (try simp only [List.map_toArray, List.map_cons, List.map_nil]); first | done | rfl | (simp only [List.length_drop, List.length_take]; rfl)) ?_
            with_reducible refine (millwrightlaw04_mid.calls a0_8 a1_8 a4 t183 _ A15.out).mono ?_
            rintro e w' ⟨rfl, ⟨nd, rfl⟩⟩
            refine ⟨_, rfl, ?_⟩
            refine hK.out _ _ (HS_of BK170.out BK171.out) (fun hHeld => ?_)
            clear hK K
            refine norm_ (a' := ?_) ?_ ?_
            rotate_left
            · show Act.put _ (some 68) _ = _
              simp only [Act.put, setIfInBounds_toArray, set_cons_zero, set_cons_succ, i64_w, i32_w]
              rfl
            exact norm_ (by simp only [putAll, Act.put, setIfInBounds_toArray, set_cons_zero, set_cons_succ] <;> rfl) (hJ5_11_17_23_29_35_41_47_53_61 (gb185) _ ⟨hHeld, BK170.out, BK171.out, BK172.out, BK173.out, BK185.out, GW185.out, GE185.out, NB170_185.out, NB185_170.out, NB171_185.out, NB185_171.out, NB172_185.out, NB185_172.out, NB173_185.out, NB185_173.out, (by repeat (first | (with_reducible first | exact HB.out | apply below_alloc | apply pw_below_drewN | apply below_drew1) | exact HB.out))⟩)
        · skip
          rintro _ w26 ⟨hS_, h0_, h1_, h2_, h3_, h4_⟩
          clear BK170 BK171 BK172 BK173 HB
          have BK170 := Aside0.mk h0_
          have BK171 := Aside0.mk h1_
          have BK172 := Aside0.mk h2_
          have BK173 := Aside0.mk h3_
          have HB := Aside0.mk h4_
          clear h0_ h1_ h2_ h3_ h4_
          have hHeld := hS_
          refine norm_ (a' := ?_) ?_ ?_
          rotate_left
          · simp only [putAll, Act.put, setIfInBounds_toArray, set_cons_zero, set_cons_succ]
            rfl
          refine two_ (i := 59) (j := 61) (Ni := some 74) (Nj := some 12) (mk 63 1152921504606846975) (mk 63 2882303761517117439) rfl rfl rfl rfl (two_of HT_.out (by kernel_rfl)) (by decide) (by decide) (fun K hK => ?_) (fun K hK => ?_)
          · skip
            refine goes_ Try.func21 (by kernel_rfl) rfl #[.int .i64 a0_9, .int .i64 a1_9, .int .u8 a4] (by rfl) rfl rfl (by (try simp only [List.map_toArray, List.map_cons, List.map_nil]); first | done | rfl | (simp only [List.length_drop, List.length_take]; rfl)) ?_
            with_reducible refine (millwrightlaw04_mid.calls a0_9 a1_9 a4 t184 _ A16.out).mono ?_
            rintro e w' ⟨rfl, ⟨nd, rfl⟩⟩
            refine ⟨_, rfl, ?_⟩
            refine hK.out _ _ (HS_of BK170.out BK171.out) (fun hHeld => ?_)
            clear hK K
            refine norm_ (a' := ?_) ?_ ?_
            rotate_left
            · show Act.put _ (some 74) _ = _
              simp only [Act.put, setIfInBounds_toArray, set_cons_zero, set_cons_succ, i64_w, i32_w]
              rfl
            refine pure_ (i := 60) (N := some 75) (v := ?_) (a' := ?_) (mk 63 2305843009213693951) rfl rfl (any_of HT_.out (by kernel_rfl)) (fun _ _ _ h => h) (Or.inl ⟨by rfl, ?_⟩) ?_ ?_
            rotate_left
            · intro w'
              go_simp
              with_reducible rfl
            rotate_left
            · simp only [Act.put, setIfInBounds_toArray, set_cons_zero, set_cons_succ, i64_w, i32_w]
              rfl
            exact norm_ (by simp only [putAll, Act.put, setIfInBounds_toArray, set_cons_zero, set_cons_succ] <;> rfl) (hJ5_11_17_23_29_35_41_47_53_59 () _ ⟨hHeld, BK170.out, BK171.out, BK172.out, BK173.out, (by repeat (first | (with_reducible first | exact HB.out | apply below_alloc | apply pw_below_drewN | apply below_drew1) | exact HB.out))⟩)
          · skip
            refine box_step ?hg (N := 12) ?hd (cs := #[.int .i64 0, .int .i64 0, .int .i64 0, .int .i64 0, .int .i64 0, .int .i64 0, .int .i64 0, .int .i64 0, .int .i64 0, .int .i64 0]) (t := 23) ?hr ?_; (case hd => rfl); (case hg => rfl); (case hr => first | (go_simp; done) | (go_simp; rfl))
            intro gb185 hg w27 hbox hb
            have n0_ := Aside0.mk (blk_below (by exact BK170.out) hb)
            have n1_ := Aside0.mk (blk_below (by exact BK171.out) hb)
            have n2_ := Aside0.mk (blk_below (by exact BK172.out) hb)
            have n3_ := Aside0.mk (blk_below (by exact BK173.out) hb)
            have n4_ := Aside0.mk (below_step (by repeat (first | (with_reducible first | exact HB.out | apply below_alloc | apply pw_below_drewN | apply below_drew1) | exact HB.out)) hb)
            have n5_ := Aside0.mk (hbox)
            have n6_ := Aside0.mk ((by rw [hg]; exact (below_size (by repeat (first | (with_reducible first | exact HB.out | apply below_alloc | apply pw_below_drewN | apply below_drew1) | exact HB.out))) : w.heap.size ≤ gb185))
            have n7_ := Aside0.mk ((by rw [hg]; exact (below_size (by repeat (first | (with_reducible first | exact HB.out | apply below_alloc | apply pw_below_drewN | apply below_drew1) | exact HB.out))) : w.heap.size ≤ gb185))
            have n8_ := Aside0.mk ((by rw [hg]; exact Nat.ne_of_lt (blk_lt BK170.out) : gb170 ≠ gb185))
            have n9_ := Aside0.mk n8_.out.symm
            have n10_ := Aside0.mk ((by rw [hg]; exact Nat.ne_of_lt (blk_lt BK171.out) : gb171 ≠ gb185))
            have n11_ := Aside0.mk n10_.out.symm
            have n12_ := Aside0.mk ((by rw [hg]; exact Nat.ne_of_lt (blk_lt BK172.out) : gb172 ≠ gb185))
            have n13_ := Aside0.mk n12_.out.symm
            have n14_ := Aside0.mk ((by rw [hg]; exact Nat.ne_of_lt (blk_lt BK173.out) : gb173 ≠ gb185))
            have n15_ := Aside0.mk n14_.out.symm
            clear BK170
            clear BK171
            clear BK172
            clear BK173
            clear HB
            have BK170 := n0_
            have BK171 := n1_
            have BK172 := n2_
            have BK173 := n3_
            have HB := n4_
            have BK185 := n5_
            have GW185 := n6_
            have GE185 := n7_
            have NB170_185 := n8_
            have NB185_170 := n9_
            have NB171_185 := n10_
            have NB185_171 := n11_
            have NB172_185 := n12_
            have NB185_172 := n13_
            have NB173_185 := n14_
            have NB185_173 := n15_
            clear n0_ n1_ n2_ n3_ n4_ n5_ n6_ n7_ n8_ n9_ n10_ n11_ n12_ n13_ n14_ n15_
            clear hb hbox hg
            refine hK.out _ _ (HS_of BK170.out BK171.out) (fun hHeld => ?_)
            clear hK K
            refine norm_ (a' := ?_) ?_ ?_
            rotate_left
            · show Act.put _ (some 12) _ = _
              simp only [Act.put, setIfInBounds_toArray, set_cons_zero, set_cons_succ, i64_w, i32_w]
              rfl
            exact norm_ (by simp only [putAll, Act.put, setIfInBounds_toArray, set_cons_zero, set_cons_succ] <;> rfl) (hJ5_11_17_23_29_35_41_47_53_61 (gb185) _ ⟨hHeld, BK170.out, BK171.out, BK172.out, BK173.out, BK185.out, GW185.out, GE185.out, NB170_185.out, NB185_170.out, NB171_185.out, NB185_171.out, NB172_185.out, NB185_172.out, NB173_185.out, NB185_173.out, (by repeat (first | (with_reducible first | exact HB.out | apply below_alloc | apply pw_below_drewN | apply below_drew1) | exact HB.out))⟩)
      · skip
        rintro gb185 w27 ⟨hS_, h0_, h1_, h2_, h3_, h4_, h5_, h6_, h7_, h8_, h9_, h10_, h11_, h12_, h13_, h14_, h15_⟩
        clear BK170 BK171 BK172 BK173 HB
        have BK170 := Aside0.mk h0_
        have BK171 := Aside0.mk h1_
        have BK172 := Aside0.mk h2_
        have BK173 := Aside0.mk h3_
        have BK185 := Aside0.mk h4_
        have GW185 := Aside0.mk h5_
        have GE185 := Aside0.mk h6_
        have NB170_185 := Aside0.mk h7_
        have NB185_170 := Aside0.mk h8_
        have NB171_185 := Aside0.mk h9_
        have NB185_171 := Aside0.mk h10_
        have NB172_185 := Aside0.mk h11_
        have NB185_172 := Aside0.mk h12_
        have NB173_185 := Aside0.mk h13_
        have NB185_173 := Aside0.mk h14_
        have HB := Aside0.mk h15_
        clear h0_ h1_ h2_ h3_ h4_ h5_ h6_ h7_ h8_ h9_ h10_ h11_ h12_ h13_ h14_ h15_
        have hHeld := hS_
        refine norm_ (a' := ?_) ?_ ?_
        rotate_left
        · simp only [putAll, Act.put, setIfInBounds_toArray, set_cons_zero, set_cons_succ]
          rfl
        refine one_ (i := 59) (N := some 74) (mk 63 3458764513820540927) rfl rfl (one_of HT_.out (by kernel_rfl)) (by decide) (fun K hK => ?_)
        refine goes_ Try.func21 (by kernel_rfl) rfl #[.int .i64 a0_9, .int .i64 a1_9, .int .u8 a4] (by rfl) rfl rfl (by (try simp only [List.map_toArray, List.map_cons, List.map_nil]); first | done | rfl | (simp only [List.length_drop, List.length_take]; rfl)) ?_
        with_reducible refine (millwrightlaw04_mid.calls a0_9 a1_9 a4 t184 _ A16.out).mono ?_
        rintro e w' ⟨rfl, ⟨nd, rfl⟩⟩
        refine ⟨_, rfl, ?_⟩
        refine hK.out _ _ (HS_of BK170.out BK171.out) (fun hHeld => ?_)
        clear hK K
        refine norm_ (a' := ?_) ?_ ?_
        rotate_left
        · show Act.put _ (some 74) _ = _
          simp only [Act.put, setIfInBounds_toArray, set_cons_zero, set_cons_succ, i64_w, i32_w]
          rfl
        refine pure_ (i := 60) (N := some 75) (v := ?_) (a' := ?_) (mk 63 4611686018427387903) rfl rfl (any_of HT_.out (by kernel_rfl)) (fun _ _ _ h => h) (Or.inl ⟨by rfl, ?_⟩) ?_ ?_
        rotate_left
        · intro w'
          go_simp
          with_reducible rfl
        rotate_left
        · simp only [Act.put, setIfInBounds_toArray, set_cons_zero, set_cons_succ, i64_w, i32_w]
          rfl
        exact norm_ (by simp only [putAll, Act.put, setIfInBounds_toArray, set_cons_zero, set_cons_succ] <;> rfl) (hJ5_11_17_23_29_35_41_47_53_59_61 (gb185) _ ⟨hHeld, BK170.out, BK171.out, BK172.out, BK173.out, BK185.out, GW185.out, GE185.out, NB170_185.out, NB185_170.out, NB171_185.out, NB185_171.out, NB172_185.out, NB185_172.out, NB173_185.out, NB185_173.out, (by repeat (first | (with_reducible first | exact HB.out | apply below_alloc | apply pw_below_drewN | apply below_drew1) | exact HB.out))⟩)
    · skip
      rintro _ w26 ⟨hS_, h0_, h1_, h2_, h3_, h4_⟩
      clear BK170 BK171 BK172 BK173 HB
      have BK170 := Aside0.mk h0_
      have BK171 := Aside0.mk h1_
      have BK172 := Aside0.mk h2_
      have BK173 := Aside0.mk h3_
      have HB := Aside0.mk h4_
      clear h0_ h1_ h2_ h3_ h4_
      have hHeld := hS_
      refine norm_ (a' := ?_) ?_ ?_
      rotate_left
      · simp only [putAll, Act.put, setIfInBounds_toArray, set_cons_zero, set_cons_succ]
        rfl
      refine one_ (i := 61) (N := some 12) (mk 63 4611686018427387903) rfl rfl (one_of HT_.out (by kernel_rfl)) (by decide) (fun K hK => ?_)
      refine box_step ?hg (N := 12) ?hd (cs := #[.int .i64 0, .int .i64 0, .int .i64 0, .int .i64 0, .int .i64 0, .int .i64 0, .int .i64 0, .int .i64 0, .int .i64 0, .int .i64 0]) (t := 23) ?hr ?_; (case hd => rfl); (case hg => rfl); (case hr => first | (go_simp; done) | (go_simp; rfl))
      intro gb185 hg w27 hbox hb
      have n0_ := Aside0.mk (blk_below (by exact BK170.out) hb)
      have n1_ := Aside0.mk (blk_below (by exact BK171.out) hb)
      have n2_ := Aside0.mk (blk_below (by exact BK172.out) hb)
      have n3_ := Aside0.mk (blk_below (by exact BK173.out) hb)
      have n4_ := Aside0.mk (below_step (by repeat (first | (with_reducible first | exact HB.out | apply below_alloc | apply pw_below_drewN | apply below_drew1) | exact HB.out)) hb)
      have n5_ := Aside0.mk (hbox)
      have n6_ := Aside0.mk ((by rw [hg]; exact (below_size (by repeat (first | (with_reducible first | exact HB.out | apply below_alloc | apply pw_below_drewN | apply below_drew1) | exact HB.out))) : w.heap.size ≤ gb185))
      have n7_ := Aside0.mk ((by rw [hg]; exact (below_size (by repeat (first | (with_reducible first | exact HB.out | apply below_alloc | apply pw_below_drewN | apply below_drew1) | exact HB.out))) : w.heap.size ≤ gb185))
      have n8_ := Aside0.mk ((by rw [hg]; exact Nat.ne_of_lt (blk_lt BK170.out) : gb170 ≠ gb185))
      have n9_ := Aside0.mk n8_.out.symm
      have n10_ := Aside0.mk ((by rw [hg]; exact Nat.ne_of_lt (blk_lt BK171.out) : gb171 ≠ gb185))
      have n11_ := Aside0.mk n10_.out.symm
      have n12_ := Aside0.mk ((by rw [hg]; exact Nat.ne_of_lt (blk_lt BK172.out) : gb172 ≠ gb185))
      have n13_ := Aside0.mk n12_.out.symm
      have n14_ := Aside0.mk ((by rw [hg]; exact Nat.ne_of_lt (blk_lt BK173.out) : gb173 ≠ gb185))
      have n15_ := Aside0.mk n14_.out.symm
      clear BK170
      clear BK171
      clear BK172
      clear BK173
      clear HB
      have BK170 := n0_
      have BK171 := n1_
      have BK172 := n2_
      have BK173 := n3_
      have HB := n4_
      have BK185 := n5_
      have GW185 := n6_
      have GE185 := n7_
      have NB170_185 := n8_
      have NB185_170 := n9_
      have NB171_185 := n10_
      have NB185_171 := n11_
      have NB172_185 := n12_
      have NB185_172 := n13_
      have NB173_185 := n14_
      have NB185_173 := n15_
      clear n0_ n1_ n2_ n3_ n4_ n5_ n6_ n7_ n8_ n9_ n10_ n11_ n12_ n13_ n14_ n15_
      clear hb hbox hg
      refine hK.out _ _ (HS_of BK170.out BK171.out) (fun hHeld => ?_)
      clear hK K
      refine norm_ (a' := ?_) ?_ ?_
      rotate_left
      · show Act.put _ (some 12) _ = _
        simp only [Act.put, setIfInBounds_toArray, set_cons_zero, set_cons_succ, i64_w, i32_w]
        rfl
      exact norm_ (by simp only [putAll, Act.put, setIfInBounds_toArray, set_cons_zero, set_cons_succ] <;> rfl) (hJ5_11_17_23_29_35_41_47_53_59_61 (gb185) _ ⟨hHeld, BK170.out, BK171.out, BK172.out, BK173.out, BK185.out, GW185.out, GE185.out, NB170_185.out, NB185_170.out, NB171_185.out, NB185_171.out, NB172_185.out, NB185_172.out, NB173_185.out, NB185_173.out, (by repeat (first | (with_reducible first | exact HB.out | apply below_alloc | apply pw_below_drewN | apply below_drew1) | exact HB.out))⟩)
  rintro gb185 w27 ⟨hS_, h0_, h1_, h2_, h3_, h4_, h5_, h6_, h7_, h8_, h9_, h10_, h11_, h12_, h13_, h14_, h15_⟩
  clear BK170 BK171 BK172 BK173 HB
  have BK170 := Aside0.mk h0_
  have BK171 := Aside0.mk h1_
  have BK172 := Aside0.mk h2_
  have BK173 := Aside0.mk h3_
  have BK185 := Aside0.mk h4_
  have GW185 := Aside0.mk h5_
  have GE185 := Aside0.mk h6_
  have NB170_185 := Aside0.mk h7_
  have NB185_170 := Aside0.mk h8_
  have NB171_185 := Aside0.mk h9_
  have NB185_171 := Aside0.mk h10_
  have NB172_185 := Aside0.mk h11_
  have NB185_172 := Aside0.mk h12_
  have NB173_185 := Aside0.mk h13_
  have NB185_173 := Aside0.mk h14_
  have HB := Aside0.mk h15_
  clear h0_ h1_ h2_ h3_ h4_ h5_ h6_ h7_ h8_ h9_ h10_ h11_ h12_ h13_ h14_ h15_
  have hHeld := hS_
  refine norm_ (a' := ?_) ?_ ?_
  rotate_left
  · simp only [putAll, Act.put, setIfInBounds_toArray, set_cons_zero, set_cons_succ]
    rfl
  refine one_ (i := 62) (N := none) (mk 63 9223372036854775807) rfl rfl (one_of HT_.out (by kernel_rfl)) (by decide) (fun K hK => ?_)
  have hs28 : w27.cell? ⟨gb185, 0, none⟩ = some (.int .i64 0) := (blk_cell BK185.out 0).trans rfl
  have hfs28 := blk_frozen BK185.out 0
  have hns28_0 := NB170_185.out
  have hns28_1 := NB171_185.out
  have hns28_2 := NB172_185.out
  have hns28_3 := NB173_185.out
  have hms28_0 := NB185_170.out
  have hms28_1 := NB185_171.out
  have hms28_2 := NB185_172.out
  have hms28_3 := NB185_173.out
  have hs29 : w27.cell? ⟨gb185, 1, none⟩ = some (.int .i64 0) := (blk_cell BK185.out 1).trans rfl
  have hfs29 := blk_frozen BK185.out 1
  have hns29_0 := NB170_185.out
  have hns29_1 := NB171_185.out
  have hns29_2 := NB172_185.out
  have hns29_3 := NB173_185.out
  have hms29_0 := NB185_170.out
  have hms29_1 := NB185_171.out
  have hms29_2 := NB185_172.out
  have hms29_3 := NB185_173.out
  have hs30 : w27.cell? ⟨gb185, 2, none⟩ = some (.int .i64 0) := (blk_cell BK185.out 2).trans rfl
  have hfs30 := blk_frozen BK185.out 2
  have hns30_0 := NB170_185.out
  have hns30_1 := NB171_185.out
  have hns30_2 := NB172_185.out
  have hns30_3 := NB173_185.out
  have hms30_0 := NB185_170.out
  have hms30_1 := NB185_171.out
  have hms30_2 := NB185_172.out
  have hms30_3 := NB185_173.out
  have hs31 : w27.cell? ⟨gb185, 3, none⟩ = some (.int .i64 0) := (blk_cell BK185.out 3).trans rfl
  have hfs31 := blk_frozen BK185.out 3
  have hns31_0 := NB170_185.out
  have hns31_1 := NB171_185.out
  have hns31_2 := NB172_185.out
  have hns31_3 := NB173_185.out
  have hms31_0 := NB185_170.out
  have hms31_1 := NB185_171.out
  have hms31_2 := NB185_172.out
  have hms31_3 := NB185_173.out
  have hs32 : w27.cell? ⟨gb185, 4, none⟩ = some (.int .i64 0) := (blk_cell BK185.out 4).trans rfl
  have hfs32 := blk_frozen BK185.out 4
  have hns32_0 := NB170_185.out
  have hns32_1 := NB171_185.out
  have hns32_2 := NB172_185.out
  have hns32_3 := NB173_185.out
  have hms32_0 := NB185_170.out
  have hms32_1 := NB185_171.out
  have hms32_2 := NB185_172.out
  have hms32_3 := NB185_173.out
  have hs33 : w27.cell? ⟨gb185, 5, none⟩ = some (.int .i64 0) := (blk_cell BK185.out 5).trans rfl
  have hfs33 := blk_frozen BK185.out 5
  have hns33_0 := NB170_185.out
  have hns33_1 := NB171_185.out
  have hns33_2 := NB172_185.out
  have hns33_3 := NB173_185.out
  have hms33_0 := NB185_170.out
  have hms33_1 := NB185_171.out
  have hms33_2 := NB185_172.out
  have hms33_3 := NB185_173.out
  have hs34 : w27.cell? ⟨gb185, 6, none⟩ = some (.int .i64 0) := (blk_cell BK185.out 6).trans rfl
  have hfs34 := blk_frozen BK185.out 6
  have hns34_0 := NB170_185.out
  have hns34_1 := NB171_185.out
  have hns34_2 := NB172_185.out
  have hns34_3 := NB173_185.out
  have hms34_0 := NB185_170.out
  have hms34_1 := NB185_171.out
  have hms34_2 := NB185_172.out
  have hms34_3 := NB185_173.out
  have hs35 : w27.cell? ⟨gb185, 7, none⟩ = some (.int .i64 0) := (blk_cell BK185.out 7).trans rfl
  have hfs35 := blk_frozen BK185.out 7
  have hns35_0 := NB170_185.out
  have hns35_1 := NB171_185.out
  have hns35_2 := NB172_185.out
  have hns35_3 := NB173_185.out
  have hms35_0 := NB185_170.out
  have hms35_1 := NB185_171.out
  have hms35_2 := NB185_172.out
  have hms35_3 := NB185_173.out
  have hs36 : w27.cell? ⟨gb185, 8, none⟩ = some (.int .i64 0) := (blk_cell BK185.out 8).trans rfl
  have hfs36 := blk_frozen BK185.out 8
  have hns36_0 := NB170_185.out
  have hns36_1 := NB171_185.out
  have hns36_2 := NB172_185.out
  have hns36_3 := NB173_185.out
  have hms36_0 := NB185_170.out
  have hms36_1 := NB185_171.out
  have hms36_2 := NB185_172.out
  have hms36_3 := NB185_173.out
  have hs37 : w27.cell? ⟨gb185, 9, none⟩ = some (.int .i64 0) := (blk_cell BK185.out 9).trans rfl
  have hfs37 := blk_frozen BK185.out 9
  have hns37_0 := NB170_185.out
  have hns37_1 := NB171_185.out
  have hns37_2 := NB172_185.out
  have hns37_3 := NB173_185.out
  have hms37_0 := NB185_170.out
  have hms37_1 := NB185_171.out
  have hms37_2 := NB185_172.out
  have hms37_3 := NB185_173.out
  refine skip_ (w1 := ?_) (by rfl) rfl ?_ ?_
  rotate_left
  · go_simp
    rfl
  refine hK.out _ _ (HS_of (by (with_reducible repeat (first | refine blk_far ?_ NB170_185.out _ | refine blk_drewN ?_ _ | refine blk_drew ?_)); exact BK170.out) (by (with_reducible repeat (first | refine blk_far ?_ NB171_185.out _ | refine blk_drewN ?_ _ | refine blk_drew ?_)); exact BK171.out)) (fun hHeld => ?_)
  clear hK K
  refine done_ (done_of HT_.out (by kernel_rfl)) ?_
  try go_wp2
  have n0_ : Aside0 (((((((((((w27.setCell ⟨gb185, 0, none⟩ (.int .i64 t175)).setCell ⟨gb185, 1, none⟩ (.int .i64 t176)).setCell ⟨gb185, 2, none⟩ (.int .i64 t177)).setCell ⟨gb185, 3, none⟩ (.int .i64 t178)).setCell ⟨gb185, 4, none⟩ (.int .i64 t179)).setCell ⟨gb185, 5, none⟩ (.int .i64 t180)).setCell ⟨gb185, 6, none⟩ (.int .i64 t181)).setCell ⟨gb185, 7, none⟩ (.int .i64 t182)).setCell ⟨gb185, 8, none⟩ (.int .i64 t183)).setCell ⟨gb185, 9, none⟩ (.int .i64 t184)).heap[gb170]? = some (.cells #[.int .i64 a0_0, .int .i64 a0_1, .int .i64 a0_2, .int .i64 a0_3, .int .i64 a0_4, .int .i64 a0_5, .int .i64 a0_6, .int .i64 a0_7, .int .i64 a0_8, .int .i64 a0_9] 23 (0, 0))) := ⟨by (with_reducible repeat (first | refine blk_far ?_ NB170_185.out _ | refine blk_drewN ?_ _ | refine blk_drew ?_)); exact BK170.out⟩
  have n1_ : Aside0 (((((((((((w27.setCell ⟨gb185, 0, none⟩ (.int .i64 t175)).setCell ⟨gb185, 1, none⟩ (.int .i64 t176)).setCell ⟨gb185, 2, none⟩ (.int .i64 t177)).setCell ⟨gb185, 3, none⟩ (.int .i64 t178)).setCell ⟨gb185, 4, none⟩ (.int .i64 t179)).setCell ⟨gb185, 5, none⟩ (.int .i64 t180)).setCell ⟨gb185, 6, none⟩ (.int .i64 t181)).setCell ⟨gb185, 7, none⟩ (.int .i64 t182)).setCell ⟨gb185, 8, none⟩ (.int .i64 t183)).setCell ⟨gb185, 9, none⟩ (.int .i64 t184)).heap[gb171]? = some (.cells #[.int .i64 a1_0, .int .i64 a1_1, .int .i64 a1_2, .int .i64 a1_3, .int .i64 a1_4, .int .i64 a1_5, .int .i64 a1_6, .int .i64 a1_7, .int .i64 a1_8, .int .i64 a1_9] 23 (0, 0))) := ⟨by (with_reducible repeat (first | refine blk_far ?_ NB171_185.out _ | refine blk_drewN ?_ _ | refine blk_drew ?_)); exact BK171.out⟩
  have n2_ : Aside0 (((((((((((w27.setCell ⟨gb185, 0, none⟩ (.int .i64 t175)).setCell ⟨gb185, 1, none⟩ (.int .i64 t176)).setCell ⟨gb185, 2, none⟩ (.int .i64 t177)).setCell ⟨gb185, 3, none⟩ (.int .i64 t178)).setCell ⟨gb185, 4, none⟩ (.int .i64 t179)).setCell ⟨gb185, 5, none⟩ (.int .i64 t180)).setCell ⟨gb185, 6, none⟩ (.int .i64 t181)).setCell ⟨gb185, 7, none⟩ (.int .i64 t182)).setCell ⟨gb185, 8, none⟩ (.int .i64 t183)).setCell ⟨gb185, 9, none⟩ (.int .i64 t184)).heap[gb172]? = some (.cells #[.int .i64 a2_0, .int .i64 a2_1] 39 (0, 0))) := ⟨by (with_reducible repeat (first | refine blk_far ?_ NB172_185.out _ | refine blk_drewN ?_ _ | refine blk_drew ?_)); exact BK172.out⟩
  have n3_ : Aside0 (((((((((((w27.setCell ⟨gb185, 0, none⟩ (.int .i64 t175)).setCell ⟨gb185, 1, none⟩ (.int .i64 t176)).setCell ⟨gb185, 2, none⟩ (.int .i64 t177)).setCell ⟨gb185, 3, none⟩ (.int .i64 t178)).setCell ⟨gb185, 4, none⟩ (.int .i64 t179)).setCell ⟨gb185, 5, none⟩ (.int .i64 t180)).setCell ⟨gb185, 6, none⟩ (.int .i64 t181)).setCell ⟨gb185, 7, none⟩ (.int .i64 t182)).setCell ⟨gb185, 8, none⟩ (.int .i64 t183)).setCell ⟨gb185, 9, none⟩ (.int .i64 t184)).heap[gb173]? = some (.cells #[.int .i64 a3_0, .int .i64 a3_1] 39 (0, 0))) := ⟨by (with_reducible repeat (first | refine blk_far ?_ NB173_185.out _ | refine blk_drewN ?_ _ | refine blk_drew ?_)); exact BK173.out⟩
  have n4_ : Aside0 (((((((((((w27.setCell ⟨gb185, 0, none⟩ (.int .i64 t175)).setCell ⟨gb185, 1, none⟩ (.int .i64 t176)).setCell ⟨gb185, 2, none⟩ (.int .i64 t177)).setCell ⟨gb185, 3, none⟩ (.int .i64 t178)).setCell ⟨gb185, 4, none⟩ (.int .i64 t179)).setCell ⟨gb185, 5, none⟩ (.int .i64 t180)).setCell ⟨gb185, 6, none⟩ (.int .i64 t181)).setCell ⟨gb185, 7, none⟩ (.int .i64 t182)).setCell ⟨gb185, 8, none⟩ (.int .i64 t183)).setCell ⟨gb185, 9, none⟩ (.int .i64 t184)).heap[gb185]? = some (.cells #[.int .i64 t175, .int .i64 t176, .int .i64 t177, .int .i64 t178, .int .i64 t179, .int .i64 t180, .int .i64 t181, .int .i64 t182, .int .i64 t183, .int .i64 t184] 23 (0, 0))) := ⟨by (with_reducible repeat (first | refine blk_drewN ?_ _ | refine blk_drew ?_ | refine blk_alloc ?_ _)); refine blk_put (cs := #[.int .i64 t175, .int .i64 t176, .int .i64 t177, .int .i64 t178, .int .i64 t179, .int .i64 t180, .int .i64 t181, .int .i64 t182, .int .i64 t183, .int .i64 0]) ?_ 9 _ rfl; (with_reducible repeat (first | refine blk_drewN ?_ _ | refine blk_drew ?_ | refine blk_alloc ?_ _)); refine blk_put (cs := #[.int .i64 t175, .int .i64 t176, .int .i64 t177, .int .i64 t178, .int .i64 t179, .int .i64 t180, .int .i64 t181, .int .i64 t182, .int .i64 0, .int .i64 0]) ?_ 8 _ rfl; (with_reducible repeat (first | refine blk_drewN ?_ _ | refine blk_drew ?_ | refine blk_alloc ?_ _)); refine blk_put (cs := #[.int .i64 t175, .int .i64 t176, .int .i64 t177, .int .i64 t178, .int .i64 t179, .int .i64 t180, .int .i64 t181, .int .i64 0, .int .i64 0, .int .i64 0]) ?_ 7 _ rfl; (with_reducible repeat (first | refine blk_drewN ?_ _ | refine blk_drew ?_ | refine blk_alloc ?_ _)); refine blk_put (cs := #[.int .i64 t175, .int .i64 t176, .int .i64 t177, .int .i64 t178, .int .i64 t179, .int .i64 t180, .int .i64 0, .int .i64 0, .int .i64 0, .int .i64 0]) ?_ 6 _ rfl; (with_reducible repeat (first | refine blk_drewN ?_ _ | refine blk_drew ?_ | refine blk_alloc ?_ _)); refine blk_put (cs := #[.int .i64 t175, .int .i64 t176, .int .i64 t177, .int .i64 t178, .int .i64 t179, .int .i64 0, .int .i64 0, .int .i64 0, .int .i64 0, .int .i64 0]) ?_ 5 _ rfl; (with_reducible repeat (first | refine blk_drewN ?_ _ | refine blk_drew ?_ | refine blk_alloc ?_ _)); refine blk_put (cs := #[.int .i64 t175, .int .i64 t176, .int .i64 t177, .int .i64 t178, .int .i64 0, .int .i64 0, .int .i64 0, .int .i64 0, .int .i64 0, .int .i64 0]) ?_ 4 _ rfl; (with_reducible repeat (first | refine blk_drewN ?_ _ | refine blk_drew ?_ | refine blk_alloc ?_ _)); refine blk_put (cs := #[.int .i64 t175, .int .i64 t176, .int .i64 t177, .int .i64 0, .int .i64 0, .int .i64 0, .int .i64 0, .int .i64 0, .int .i64 0, .int .i64 0]) ?_ 3 _ rfl; (with_reducible repeat (first | refine blk_drewN ?_ _ | refine blk_drew ?_ | refine blk_alloc ?_ _)); refine blk_put (cs := #[.int .i64 t175, .int .i64 t176, .int .i64 0, .int .i64 0, .int .i64 0, .int .i64 0, .int .i64 0, .int .i64 0, .int .i64 0, .int .i64 0]) ?_ 2 _ rfl; (with_reducible repeat (first | refine blk_drewN ?_ _ | refine blk_drew ?_ | refine blk_alloc ?_ _)); refine blk_put (cs := #[.int .i64 t175, .int .i64 0, .int .i64 0, .int .i64 0, .int .i64 0, .int .i64 0, .int .i64 0, .int .i64 0, .int .i64 0, .int .i64 0]) ?_ 1 _ rfl; (with_reducible repeat (first | refine blk_drewN ?_ _ | refine blk_drew ?_ | refine blk_alloc ?_ _)); refine blk_put (cs := #[.int .i64 0, .int .i64 0, .int .i64 0, .int .i64 0, .int .i64 0, .int .i64 0, .int .i64 0, .int .i64 0, .int .i64 0, .int .i64 0]) ?_ 0 _ rfl; (with_reducible repeat (first | refine blk_drewN ?_ _ | refine blk_drew ?_ | refine blk_alloc ?_ _)); exact BK185.out⟩
  have n5_ : Aside0 (Below w.heap.size w ((((((((((w27.setCell ⟨gb185, 0, none⟩ (.int .i64 t175)).setCell ⟨gb185, 1, none⟩ (.int .i64 t176)).setCell ⟨gb185, 2, none⟩ (.int .i64 t177)).setCell ⟨gb185, 3, none⟩ (.int .i64 t178)).setCell ⟨gb185, 4, none⟩ (.int .i64 t179)).setCell ⟨gb185, 5, none⟩ (.int .i64 t180)).setCell ⟨gb185, 6, none⟩ (.int .i64 t181)).setCell ⟨gb185, 7, none⟩ (.int .i64 t182)).setCell ⟨gb185, 8, none⟩ (.int .i64 t183)).setCell ⟨gb185, 9, none⟩ (.int .i64 t184))) := ⟨by repeat (first | (with_reducible first | exact HB.out | apply below_alloc | apply pw_below_drewN | apply below_drew1 | refine below_set ?_ GE170.out | refine below_set ?_ GE171.out | refine below_set ?_ GE172.out | refine below_set ?_ GE173.out | refine below_set ?_ GE185.out) | exact HB.out)⟩
  (try clear BK170)
  (try clear BK171)
  (try clear BK172)
  (try clear BK173)
  (try clear BK185)
  (try clear HB)
  generalize ((((((((((w27.setCell ⟨gb185, 0, none⟩ (.int .i64 t175)).setCell ⟨gb185, 1, none⟩ (.int .i64 t176)).setCell ⟨gb185, 2, none⟩ (.int .i64 t177)).setCell ⟨gb185, 3, none⟩ (.int .i64 t178)).setCell ⟨gb185, 4, none⟩ (.int .i64 t179)).setCell ⟨gb185, 5, none⟩ (.int .i64 t180)).setCell ⟨gb185, 6, none⟩ (.int .i64 t181)).setCell ⟨gb185, 7, none⟩ (.int .i64 t182)).setCell ⟨gb185, 8, none⟩ (.int .i64 t183)).setCell ⟨gb185, 9, none⟩ (.int .i64 t184)) = w38 at n0_ n1_ n2_ n3_ n4_ n5_ ⊢
  have BK170 := n0_
  have BK171 := n1_
  have BK172 := n2_
  have BK173 := n3_
  have BK185 := n4_
  have HB := n5_
  clear n0_ n1_ n2_ n3_ n4_ n5_
  have n0_ := Aside0.mk (blk_drew BK170.out)
  have n1_ := Aside0.mk (blk_drew BK171.out)
  have n2_ := Aside0.mk (blk_drew BK172.out)
  have n3_ := Aside0.mk (blk_drew BK173.out)
  have n4_ := Aside0.mk (blk_drew BK185.out)
  have n5_ := Aside0.mk (below_drew1 HB.out)
  clear BK170
  clear BK171
  clear BK172
  clear BK173
  clear BK185
  clear HB
  have BK170 := n0_
  have BK171 := n1_
  have BK172 := n2_
  have BK173 := n3_
  have BK185 := n4_
  have HB := n5_
  clear n0_ n1_ n2_ n3_ n4_ n5_
  refine start_ (n := 15) (S := fun w' => w'.cell? ⟨gb172, 0, none⟩ = some (.int .i64 a2_0) ∧ w'.cell? ⟨gb172, 1, none⟩ = some (.int .i64 a2_1) ∧ w'.cell? ⟨gb173, 0, none⟩ = some (.int .i64 a3_0) ∧ w'.cell? ⟨gb173, 1, none⟩ = some (.int .i64 a3_1)) (ds := []) #[false, false, false, false, false, false, false, false, false, false, false, false, false, false, false] (by kernel_rfl) rfl rfl ⟨(blk_cell BK172.out 0).trans rfl, (blk_cell BK172.out 1).trans rfl, (blk_cell BK173.out 0).trans rfl, (blk_cell BK173.out 1).trans rfl⟩ (fun hHeld => ?_); refine with_tabW millwrightlaw04_CheckBetween.tab3 millwrightlaw04_CheckBetween.bits3 (fun HT_ HW_ => ?_)
  generalize w38.drew = w39 at BK170 BK171 BK172 BK173 BK185 HB hHeld ⊢
  refine pure_ (i := 0) (N := some 76) (v := ?_) (a' := ?_) #[true, false, false, false, false, false, false, false, false, false, false, false, false, false, false] rfl rfl (any_of HT_.out (by kernel_rfl)) (fun _ _ _ h => h) (Or.inl ⟨by rfl, ?_⟩) ?_ ?_
  rotate_left
  · intro w'
    go_simp
    with_reducible rfl
  rotate_left
  · simp only [Act.put, setIfInBounds_toArray, set_cons_zero, set_cons_succ, i64_w, i32_w]
    rfl
  refine pure_ (i := 2) (N := some 78) (v := ?_) (a' := ?_) #[true, false, true, false, false, false, false, false, false, false, false, false, false, false, false] rfl rfl (any_of HT_.out (by kernel_rfl)) (fun _ _ _ h => h) (Or.inl ⟨by rfl, ?_⟩) ?_ ?_
  rotate_left
  · intro w'
    go_simp
    with_reducible rfl
  rotate_left
  · simp only [Act.put, setIfInBounds_toArray, set_cons_zero, set_cons_succ, i64_w, i32_w]
    rfl
  refine pure_ (i := 4) (N := some 80) (v := ?_) (a' := ?_) #[true, false, true, false, true, false, false, false, false, false, false, false, false, false, false] rfl rfl (any_of HT_.out (by kernel_rfl)) (fun _ _ _ h => h) (Or.inl ⟨by rfl, ?_⟩) ?_ ?_
  rotate_left
  · intro w'
    go_simp
    with_reducible rfl
  rotate_left
  · simp only [Act.put, setIfInBounds_toArray, set_cons_zero, set_cons_succ, i64_w, i32_w]
    rfl
  refine pure_ (i := 6) (N := some 82) (v := ?_) (a' := ?_) #[true, false, true, false, true, false, true, false, false, false, false, false, false, false, false] rfl rfl (any_of HT_.out (by kernel_rfl)) (fun _ _ _ h => h) (Or.inl ⟨by rfl, ?_⟩) ?_ ?_
  rotate_left
  · intro w'
    go_simp
    with_reducible rfl
  rotate_left
  · simp only [Act.put, setIfInBounds_toArray, set_cons_zero, set_cons_succ, i64_w, i32_w]
    rfl
  refine pure_ (i := 8) (N := some 84) (v := ?_) (a' := ?_) #[true, false, true, false, true, false, true, false, true, false, false, false, false, false, false] rfl rfl (any_of HT_.out (by kernel_rfl)) (fun _ _ _ h => h) (Or.inl ⟨by rfl, ?_⟩) ?_ ?_
  rotate_left
  · intro w'
    go_simp
    with_reducible rfl
  rotate_left
  · simp only [Act.put, setIfInBounds_toArray, set_cons_zero, set_cons_succ, i64_w, i32_w]
    rfl
  refine pure_ (i := 10) (N := some 86) (v := ?_) (a' := ?_) #[true, false, true, false, true, false, true, false, true, false, true, false, false, false, false] rfl rfl (any_of HT_.out (by kernel_rfl)) (fun _ _ _ h => h) (Or.inl ⟨by rfl, ?_⟩) ?_ ?_
  rotate_left
  · intro w'
    go_simp
    with_reducible rfl
  rotate_left
  · simp only [Act.put, setIfInBounds_toArray, set_cons_zero, set_cons_succ, i64_w, i32_w]
    rfl
  refine take_ (i := 1) (N := some 77) (v := ?_) (a' := ?_) #[true, true, true, false, true, false, true, false, true, false, true, false, false, false, false] rfl rfl (take_ofW HT_.out HW_.out (by kernel_rfl)) (fun _ _ _ h => h) (Or.inl ⟨by rfl, ?_⟩) hHeld ?_ ?_
  rotate_left
  · rintro w' ⟨s0, s1, s2, s3⟩
    go_simp
    with_reducible rfl
  rotate_left
  · simp only [Act.put, setIfInBounds_toArray, set_cons_zero, set_cons_succ, i64_w, i32_w]
    rfl
  refine take_ (i := 3) (N := some 79) (v := ?_) (a' := ?_) #[true, true, true, true, true, false, true, false, true, false, true, false, false, false, false] rfl rfl (take_ofW HT_.out HW_.out (by kernel_rfl)) (fun _ _ _ h => h) (Or.inl ⟨by rfl, ?_⟩) hHeld ?_ ?_
  rotate_left
  · rintro w' ⟨s0, s1, s2, s3⟩
    go_simp
    with_reducible rfl
  rotate_left
  · simp only [Act.put, setIfInBounds_toArray, set_cons_zero, set_cons_succ, i64_w, i32_w]
    rfl
  refine take_ (i := 7) (N := some 83) (v := ?_) (a' := ?_) #[true, true, true, true, true, false, true, true, true, false, true, false, false, false, false] rfl rfl (take_ofW HT_.out HW_.out (by kernel_rfl)) (fun _ _ _ h => h) (Or.inl ⟨by rfl, ?_⟩) hHeld ?_ ?_
  rotate_left
  · rintro w' ⟨s0, s1, s2, s3⟩
    go_simp
    with_reducible rfl
  rotate_left
  · simp only [Act.put, setIfInBounds_toArray, set_cons_zero, set_cons_succ, i64_w, i32_w]
    rfl
  refine take_ (i := 9) (N := some 85) (v := ?_) (a' := ?_) #[true, true, true, true, true, false, true, true, true, true, true, false, false, false, false] rfl rfl (take_ofW HT_.out HW_.out (by kernel_rfl)) (fun _ _ _ h => h) (Or.inl ⟨by rfl, ?_⟩) hHeld ?_ ?_
  rotate_left
  · rintro w' ⟨s0, s1, s2, s3⟩
    go_simp
    with_reducible rfl
  rotate_left
  · simp only [Act.put, setIfInBounds_toArray, set_cons_zero, set_cons_succ, i64_w, i32_w]
    rfl
  refine join_ (σ := Nat) 1 #[true, true, true, true, true, true, true, true, true, true, true, true, true, true, false] (fun s_ => [(81, .int .i64 t186), (87, .int .i64 t187), (13, .pointer (some ⟨s_, 0, none⟩)), (88, .agg #[.int .i64 t186, .int .i64 t187])]) (fun s_ w' => (w'.cell? ⟨gb172, 0, none⟩ = some (.int .i64 a2_0) ∧ w'.cell? ⟨gb172, 1, none⟩ = some (.int .i64 a2_1) ∧ w'.cell? ⟨gb173, 0, none⟩ = some (.int .i64 a3_0) ∧ w'.cell? ⟨gb173, 1, none⟩ = some (.int .i64 a3_1)) ∧ (w'.heap[gb170]? = some (.cells #[.int .i64 a0_0, .int .i64 a0_1, .int .i64 a0_2, .int .i64 a0_3, .int .i64 a0_4, .int .i64 a0_5, .int .i64 a0_6, .int .i64 a0_7, .int .i64 a0_8, .int .i64 a0_9] 23 (0, 0))) ∧ (w'.heap[gb171]? = some (.cells #[.int .i64 a1_0, .int .i64 a1_1, .int .i64 a1_2, .int .i64 a1_3, .int .i64 a1_4, .int .i64 a1_5, .int .i64 a1_6, .int .i64 a1_7, .int .i64 a1_8, .int .i64 a1_9] 23 (0, 0))) ∧ (w'.heap[gb172]? = some (.cells #[.int .i64 a2_0, .int .i64 a2_1] 39 (0, 0))) ∧ (w'.heap[gb173]? = some (.cells #[.int .i64 a3_0, .int .i64 a3_1] 39 (0, 0))) ∧ (w'.heap[gb185]? = some (.cells #[.int .i64 t175, .int .i64 t176, .int .i64 t177, .int .i64 t178, .int .i64 t179, .int .i64 t180, .int .i64 t181, .int .i64 t182, .int .i64 t183, .int .i64 t184] 23 (0, 0))) ∧ (w'.heap[s_]? = some (.cells #[.int .i64 0, .int .i64 0] 39 (0, 0))) ∧ (w.heap.size ≤ s_) ∧ (w.heap.size ≤ s_) ∧ (gb170 ≠ s_) ∧ (s_ ≠ gb170) ∧ (gb171 ≠ s_) ∧ (s_ ≠ gb171) ∧ (gb172 ≠ s_) ∧ (s_ ≠ gb172) ∧ (gb173 ≠ s_) ∧ (s_ ≠ gb173) ∧ (gb185 ≠ s_) ∧ (s_ ≠ gb185) ∧ (Below w.heap.size w w')) ?_ ?_
  rotate_left
  · intro hCont
    refine two_ (i := 5) (j := 13) (Ni := some 81) (Nj := some 13) #[true, true, true, true, true, true, true, true, true, true, true, false, false, false, false] #[true, true, true, true, true, false, true, true, true, true, true, false, false, true, false] rfl rfl rfl rfl (two_of HT_.out (by kernel_rfl)) (by decide) (by decide) (fun K hK => ?_) (fun K hK => ?_)
    · skip
      refine goes_ Try.func21 (by kernel_rfl) rfl #[.int .i64 a2_0, .int .i64 a3_0, .int .u8 a4] (by rfl) rfl rfl (by (try simp only [List.map_toArray, List.map_cons, List.map_nil]); first | done | rfl | (simp only [List.length_drop, List.length_take]; rfl)) ?_
      with_reducible refine (millwrightlaw04_mid.calls a2_0 a3_0 a4 t186 _ A17.out).mono ?_
      rintro e w' ⟨rfl, ⟨nd, rfl⟩⟩
      refine ⟨_, rfl, ?_⟩
      refine hK.out _ _ ⟨(blk_cell BK172.out 0).trans rfl, (blk_cell BK172.out 1).trans rfl, (blk_cell BK173.out 0).trans rfl, (blk_cell BK173.out 1).trans rfl⟩ (fun hHeld => ?_)
      clear hK K
      refine norm_ (a' := ?_) ?_ ?_
      rotate_left
      · show Act.put _ (some 81) _ = _
        simp only [Act.put, setIfInBounds_toArray, set_cons_zero, set_cons_succ, i64_w, i32_w]
        rfl
      refine two_ (i := 11) (j := 13) (Ni := some 87) (Nj := some 13) #[true, true, true, true, true, true, true, true, true, true, true, true, false, false, false] #[true, true, true, true, true, true, true, true, true, true, true, false, false, true, false] rfl rfl rfl rfl (two_of HT_.out (by kernel_rfl)) (by decide) (by decide) (fun K hK => ?_) (fun K hK => ?_)
      · skip
        refine goes_ Try.func21 (by kernel_rfl) rfl #[.int .i64 a2_1, .int .i64 a3_1, .int .u8 a4] (by rfl) rfl rfl (by (try simp only [List.map_toArray, List.map_cons, List.map_nil]); first | done | rfl | (simp only [List.length_drop, List.length_take]; rfl)) ?_
        with_reducible refine (millwrightlaw04_mid.calls a2_1 a3_1 a4 t187 _ A18.out).mono ?_
        rintro e w' ⟨rfl, ⟨nd, rfl⟩⟩
        refine ⟨_, rfl, ?_⟩
        refine hK.out _ _ ⟨(blk_cell BK172.out 0).trans rfl, (blk_cell BK172.out 1).trans rfl, (blk_cell BK173.out 0).trans rfl, (blk_cell BK173.out 1).trans rfl⟩ (fun hHeld => ?_)
        clear hK K
        refine norm_ (a' := ?_) ?_ ?_
        rotate_left
        · show Act.put _ (some 87) _ = _
          simp only [Act.put, setIfInBounds_toArray, set_cons_zero, set_cons_succ, i64_w, i32_w]
          rfl
        refine pure_ (i := 12) (N := some 88) (v := ?_) (a' := ?_) #[true, true, true, true, true, true, true, true, true, true, true, true, true, false, false] rfl rfl (any_of HT_.out (by kernel_rfl)) (fun _ _ _ h => h) (Or.inl ⟨by rfl, ?_⟩) ?_ ?_
        rotate_left
        · intro w'
          go_simp
          with_reducible rfl
        rotate_left
        · simp only [Act.put, setIfInBounds_toArray, set_cons_zero, set_cons_succ, i64_w, i32_w]
          rfl
        refine one_ (i := 13) (N := some 13) #[true, true, true, true, true, true, true, true, true, true, true, true, true, true, false] rfl rfl (one_of HT_.out (by kernel_rfl)) (by decide) (fun K hK => ?_)
        refine box_step ?hg (N := 13) ?hd (cs := #[.int .i64 0, .int .i64 0]) (t := 39) ?hr ?_; (case hd => rfl); (case hg => rfl); (case hr => first | (go_simp; done) | (go_simp; rfl))
        intro gb188 hg w40 hbox hb
        have n0_ := Aside0.mk (blk_below (by exact BK170.out) hb)
        have n1_ := Aside0.mk (blk_below (by exact BK171.out) hb)
        have n2_ := Aside0.mk (blk_below (by exact BK172.out) hb)
        have n3_ := Aside0.mk (blk_below (by exact BK173.out) hb)
        have n4_ := Aside0.mk (blk_below (by exact BK185.out) hb)
        have n5_ := Aside0.mk (below_step (by repeat (first | (with_reducible first | exact HB.out | apply below_alloc | apply pw_below_drewN | apply below_drew1 | refine below_set ?_ GE170.out | refine below_set ?_ GE171.out | refine below_set ?_ GE172.out | refine below_set ?_ GE173.out | refine below_set ?_ GE185.out) | exact HB.out)) hb)
        have n6_ := Aside0.mk (hbox)
        have n7_ := Aside0.mk ((by rw [hg]; exact (below_size (by repeat (first | (with_reducible first | exact HB.out | apply below_alloc | apply pw_below_drewN | apply below_drew1 | refine below_set ?_ GE170.out | refine below_set ?_ GE171.out | refine below_set ?_ GE172.out | refine below_set ?_ GE173.out | refine below_set ?_ GE185.out) | exact HB.out))) : w.heap.size ≤ gb188))
        have n8_ := Aside0.mk ((by rw [hg]; exact (below_size (by repeat (first | (with_reducible first | exact HB.out | apply below_alloc | apply pw_below_drewN | apply below_drew1 | refine below_set ?_ GE170.out | refine below_set ?_ GE171.out | refine below_set ?_ GE172.out | refine below_set ?_ GE173.out | refine below_set ?_ GE185.out) | exact HB.out))) : w.heap.size ≤ gb188))
        have n9_ := Aside0.mk ((by rw [hg]; exact Nat.ne_of_lt (blk_lt BK170.out) : gb170 ≠ gb188))
        have n10_ := Aside0.mk n9_.out.symm
        have n11_ := Aside0.mk ((by rw [hg]; exact Nat.ne_of_lt (blk_lt BK171.out) : gb171 ≠ gb188))
        have n12_ := Aside0.mk n11_.out.symm
        have n13_ := Aside0.mk ((by rw [hg]; exact Nat.ne_of_lt (blk_lt BK172.out) : gb172 ≠ gb188))
        have n14_ := Aside0.mk n13_.out.symm
        have n15_ := Aside0.mk ((by rw [hg]; exact Nat.ne_of_lt (blk_lt BK173.out) : gb173 ≠ gb188))
        have n16_ := Aside0.mk n15_.out.symm
        have n17_ := Aside0.mk ((by rw [hg]; exact Nat.ne_of_lt (blk_lt BK185.out) : gb185 ≠ gb188))
        have n18_ := Aside0.mk n17_.out.symm
        clear BK170
        clear BK171
        clear BK172
        clear BK173
        clear BK185
        clear HB
        have BK170 := n0_
        have BK171 := n1_
        have BK172 := n2_
        have BK173 := n3_
        have BK185 := n4_
        have HB := n5_
        have BK188 := n6_
        have GW188 := n7_
        have GE188 := n8_
        have NB170_188 := n9_
        have NB188_170 := n10_
        have NB171_188 := n11_
        have NB188_171 := n12_
        have NB172_188 := n13_
        have NB188_172 := n14_
        have NB173_188 := n15_
        have NB188_173 := n16_
        have NB185_188 := n17_
        have NB188_185 := n18_
        clear n0_ n1_ n2_ n3_ n4_ n5_ n6_ n7_ n8_ n9_ n10_ n11_ n12_ n13_ n14_ n15_ n16_ n17_ n18_
        clear hb hbox hg
        refine hK.out _ _ ⟨(blk_cell BK172.out 0).trans rfl, (blk_cell BK172.out 1).trans rfl, (blk_cell BK173.out 0).trans rfl, (blk_cell BK173.out 1).trans rfl⟩ (fun hHeld => ?_)
        clear hK K
        refine norm_ (a' := ?_) ?_ ?_
        rotate_left
        · show Act.put _ (some 13) _ = _
          simp only [Act.put, setIfInBounds_toArray, set_cons_zero, set_cons_succ, i64_w, i32_w]
          rfl
        exact norm_ (by simp only [putAll, Act.put, setIfInBounds_toArray, set_cons_zero, set_cons_succ]) (hCont (gb188) _ ⟨hHeld, BK170.out, BK171.out, BK172.out, BK173.out, BK185.out, BK188.out, GW188.out, GE188.out, NB170_188.out, NB188_170.out, NB171_188.out, NB188_171.out, NB172_188.out, NB188_172.out, NB173_188.out, NB188_173.out, NB185_188.out, NB188_185.out, (by repeat (first | (with_reducible first | exact HB.out | apply below_alloc | apply pw_below_drewN | apply below_drew1 | refine below_set ?_ GE170.out | refine below_set ?_ GE171.out | refine below_set ?_ GE172.out | refine below_set ?_ GE173.out | refine below_set ?_ GE185.out | refine below_set ?_ GE188.out) | exact HB.out))⟩)
      · skip
        refine box_step ?hg (N := 13) ?hd (cs := #[.int .i64 0, .int .i64 0]) (t := 39) ?hr ?_; (case hd => rfl); (case hg => rfl); (case hr => first | (go_simp; done) | (go_simp; rfl))
        intro gb188 hg w40 hbox hb
        have n0_ := Aside0.mk (blk_below (by exact BK170.out) hb)
        have n1_ := Aside0.mk (blk_below (by exact BK171.out) hb)
        have n2_ := Aside0.mk (blk_below (by exact BK172.out) hb)
        have n3_ := Aside0.mk (blk_below (by exact BK173.out) hb)
        have n4_ := Aside0.mk (blk_below (by exact BK185.out) hb)
        have n5_ := Aside0.mk (below_step (by repeat (first | (with_reducible first | exact HB.out | apply below_alloc | apply pw_below_drewN | apply below_drew1 | refine below_set ?_ GE170.out | refine below_set ?_ GE171.out | refine below_set ?_ GE172.out | refine below_set ?_ GE173.out | refine below_set ?_ GE185.out) | exact HB.out)) hb)
        have n6_ := Aside0.mk (hbox)
        have n7_ := Aside0.mk ((by rw [hg]; exact (below_size (by repeat (first | (with_reducible first | exact HB.out | apply below_alloc | apply pw_below_drewN | apply below_drew1 | refine below_set ?_ GE170.out | refine below_set ?_ GE171.out | refine below_set ?_ GE172.out | refine below_set ?_ GE173.out | refine below_set ?_ GE185.out) | exact HB.out))) : w.heap.size ≤ gb188))
        have n8_ := Aside0.mk ((by rw [hg]; exact (below_size (by repeat (first | (with_reducible first | exact HB.out | apply below_alloc | apply pw_below_drewN | apply below_drew1 | refine below_set ?_ GE170.out | refine below_set ?_ GE171.out | refine below_set ?_ GE172.out | refine below_set ?_ GE173.out | refine below_set ?_ GE185.out) | exact HB.out))) : w.heap.size ≤ gb188))
        have n9_ := Aside0.mk ((by rw [hg]; exact Nat.ne_of_lt (blk_lt BK170.out) : gb170 ≠ gb188))
        have n10_ := Aside0.mk n9_.out.symm
        have n11_ := Aside0.mk ((by rw [hg]; exact Nat.ne_of_lt (blk_lt BK171.out) : gb171 ≠ gb188))
        have n12_ := Aside0.mk n11_.out.symm
        have n13_ := Aside0.mk ((by rw [hg]; exact Nat.ne_of_lt (blk_lt BK172.out) : gb172 ≠ gb188))
        have n14_ := Aside0.mk n13_.out.symm
        have n15_ := Aside0.mk ((by rw [hg]; exact Nat.ne_of_lt (blk_lt BK173.out) : gb173 ≠ gb188))
        have n16_ := Aside0.mk n15_.out.symm
        have n17_ := Aside0.mk ((by rw [hg]; exact Nat.ne_of_lt (blk_lt BK185.out) : gb185 ≠ gb188))
        have n18_ := Aside0.mk n17_.out.symm
        clear BK170
        clear BK171
        clear BK172
        clear BK173
        clear BK185
        clear HB
        have BK170 := n0_
        have BK171 := n1_
        have BK172 := n2_
        have BK173 := n3_
        have BK185 := n4_
        have HB := n5_
        have BK188 := n6_
        have GW188 := n7_
        have GE188 := n8_
        have NB170_188 := n9_
        have NB188_170 := n10_
        have NB171_188 := n11_
        have NB188_171 := n12_
        have NB172_188 := n13_
        have NB188_172 := n14_
        have NB173_188 := n15_
        have NB188_173 := n16_
        have NB185_188 := n17_
        have NB188_185 := n18_
        clear n0_ n1_ n2_ n3_ n4_ n5_ n6_ n7_ n8_ n9_ n10_ n11_ n12_ n13_ n14_ n15_ n16_ n17_ n18_
        clear hb hbox hg
        refine hK.out _ _ ⟨(blk_cell BK172.out 0).trans rfl, (blk_cell BK172.out 1).trans rfl, (blk_cell BK173.out 0).trans rfl, (blk_cell BK173.out 1).trans rfl⟩ (fun hHeld => ?_)
        clear hK K
        refine norm_ (a' := ?_) ?_ ?_
        rotate_left
        · show Act.put _ (some 13) _ = _
          simp only [Act.put, setIfInBounds_toArray, set_cons_zero, set_cons_succ, i64_w, i32_w]
          rfl
        refine one_ (i := 11) (N := some 87) #[true, true, true, true, true, true, true, true, true, true, true, true, false, true, false] rfl rfl (one_of HT_.out (by kernel_rfl)) (by decide) (fun K hK => ?_)
        refine goes_ Try.func21 (by kernel_rfl) rfl #[.int .i64 a2_1, .int .i64 a3_1, .int .u8 a4] (by rfl) rfl rfl (by (try simp only [List.map_toArray, List.map_cons, List.map_nil]); first | done | rfl | (simp only [List.length_drop, List.length_take]; rfl)) ?_
        with_reducible refine (millwrightlaw04_mid.calls a2_1 a3_1 a4 t187 _ A18.out).mono ?_
        rintro e w' ⟨rfl, ⟨nd, rfl⟩⟩
        refine ⟨_, rfl, ?_⟩
        refine hK.out _ _ ⟨(blk_cell BK172.out 0).trans rfl, (blk_cell BK172.out 1).trans rfl, (blk_cell BK173.out 0).trans rfl, (blk_cell BK173.out 1).trans rfl⟩ (fun hHeld => ?_)
        clear hK K
        refine norm_ (a' := ?_) ?_ ?_
        rotate_left
        · show Act.put _ (some 87) _ = _
          simp only [Act.put, setIfInBounds_toArray, set_cons_zero, set_cons_succ, i64_w, i32_w]
          rfl
        refine pure_ (i := 12) (N := some 88) (v := ?_) (a' := ?_) #[true, true, true, true, true, true, true, true, true, true, true, true, true, true, false] rfl rfl (any_of HT_.out (by kernel_rfl)) (fun _ _ _ h => h) (Or.inl ⟨by rfl, ?_⟩) ?_ ?_
        rotate_left
        · intro w'
          go_simp
          with_reducible rfl
        rotate_left
        · simp only [Act.put, setIfInBounds_toArray, set_cons_zero, set_cons_succ, i64_w, i32_w]
          rfl
        exact norm_ (by simp only [putAll, Act.put, setIfInBounds_toArray, set_cons_zero, set_cons_succ]) (hCont (gb188) _ ⟨hHeld, BK170.out, BK171.out, BK172.out, BK173.out, BK185.out, BK188.out, GW188.out, GE188.out, NB170_188.out, NB188_170.out, NB171_188.out, NB188_171.out, NB172_188.out, NB188_172.out, NB173_188.out, NB188_173.out, NB185_188.out, NB188_185.out, (by repeat (first | (with_reducible first | exact HB.out | apply below_alloc | apply pw_below_drewN | apply below_drew1 | refine below_set ?_ GE170.out | refine below_set ?_ GE171.out | refine below_set ?_ GE172.out | refine below_set ?_ GE173.out | refine below_set ?_ GE185.out | refine below_set ?_ GE188.out) | exact HB.out))⟩)
    · skip
      refine box_step ?hg (N := 13) ?hd (cs := #[.int .i64 0, .int .i64 0]) (t := 39) ?hr ?_; (case hd => rfl); (case hg => rfl); (case hr => first | (go_simp; done) | (go_simp; rfl))
      intro gb188 hg w40 hbox hb
      have n0_ := Aside0.mk (blk_below (by exact BK170.out) hb)
      have n1_ := Aside0.mk (blk_below (by exact BK171.out) hb)
      have n2_ := Aside0.mk (blk_below (by exact BK172.out) hb)
      have n3_ := Aside0.mk (blk_below (by exact BK173.out) hb)
      have n4_ := Aside0.mk (blk_below (by exact BK185.out) hb)
      have n5_ := Aside0.mk (below_step (by repeat (first | (with_reducible first | exact HB.out | apply below_alloc | apply pw_below_drewN | apply below_drew1 | refine below_set ?_ GE170.out | refine below_set ?_ GE171.out | refine below_set ?_ GE172.out | refine below_set ?_ GE173.out | refine below_set ?_ GE185.out) | exact HB.out)) hb)
      have n6_ := Aside0.mk (hbox)
      have n7_ := Aside0.mk ((by rw [hg]; exact (below_size (by repeat (first | (with_reducible first | exact HB.out | apply below_alloc | apply pw_below_drewN | apply below_drew1 | refine below_set ?_ GE170.out | refine below_set ?_ GE171.out | refine below_set ?_ GE172.out | refine below_set ?_ GE173.out | refine below_set ?_ GE185.out) | exact HB.out))) : w.heap.size ≤ gb188))
      have n8_ := Aside0.mk ((by rw [hg]; exact (below_size (by repeat (first | (with_reducible first | exact HB.out | apply below_alloc | apply pw_below_drewN | apply below_drew1 | refine below_set ?_ GE170.out | refine below_set ?_ GE171.out | refine below_set ?_ GE172.out | refine below_set ?_ GE173.out | refine below_set ?_ GE185.out) | exact HB.out))) : w.heap.size ≤ gb188))
      have n9_ := Aside0.mk ((by rw [hg]; exact Nat.ne_of_lt (blk_lt BK170.out) : gb170 ≠ gb188))
      have n10_ := Aside0.mk n9_.out.symm
      have n11_ := Aside0.mk ((by rw [hg]; exact Nat.ne_of_lt (blk_lt BK171.out) : gb171 ≠ gb188))
      have n12_ := Aside0.mk n11_.out.symm
      have n13_ := Aside0.mk ((by rw [hg]; exact Nat.ne_of_lt (blk_lt BK172.out) : gb172 ≠ gb188))
      have n14_ := Aside0.mk n13_.out.symm
      have n15_ := Aside0.mk ((by rw [hg]; exact Nat.ne_of_lt (blk_lt BK173.out) : gb173 ≠ gb188))
      have n16_ := Aside0.mk n15_.out.symm
      have n17_ := Aside0.mk ((by rw [hg]; exact Nat.ne_of_lt (blk_lt BK185.out) : gb185 ≠ gb188))
      have n18_ := Aside0.mk n17_.out.symm
      clear BK170
      clear BK171
      clear BK172
      clear BK173
      clear BK185
      clear HB
      have BK170 := n0_
      have BK171 := n1_
      have BK172 := n2_
      have BK173 := n3_
      have BK185 := n4_
      have HB := n5_
      have BK188 := n6_
      have GW188 := n7_
      have GE188 := n8_
      have NB170_188 := n9_
      have NB188_170 := n10_
      have NB171_188 := n11_
      have NB188_171 := n12_
      have NB172_188 := n13_
      have NB188_172 := n14_
      have NB173_188 := n15_
      have NB188_173 := n16_
      have NB185_188 := n17_
      have NB188_185 := n18_
      clear n0_ n1_ n2_ n3_ n4_ n5_ n6_ n7_ n8_ n9_ n10_ n11_ n12_ n13_ n14_ n15_ n16_ n17_ n18_
      clear hb hbox hg
      refine hK.out _ _ ⟨(blk_cell BK172.out 0).trans rfl, (blk_cell BK172.out 1).trans rfl, (blk_cell BK173.out 0).trans rfl, (blk_cell BK173.out 1).trans rfl⟩ (fun hHeld => ?_)
      clear hK K
      refine norm_ (a' := ?_) ?_ ?_
      rotate_left
      · show Act.put _ (some 13) _ = _
        simp only [Act.put, setIfInBounds_toArray, set_cons_zero, set_cons_succ, i64_w, i32_w]
        rfl
      refine one_ (i := 5) (N := some 81) #[true, true, true, true, true, true, true, true, true, true, true, false, false, true, false] rfl rfl (one_of HT_.out (by kernel_rfl)) (by decide) (fun K hK => ?_)
      refine goes_ Try.func21 (by kernel_rfl) rfl #[.int .i64 a2_0, .int .i64 a3_0, .int .u8 a4] (by rfl) rfl rfl (by (try simp only [List.map_toArray, List.map_cons, List.map_nil]); first | done | rfl | (simp only [List.length_drop, List.length_take]; rfl)) ?_
      with_reducible refine (millwrightlaw04_mid.calls a2_0 a3_0 a4 t186 _ A17.out).mono ?_
      rintro e w' ⟨rfl, ⟨nd, rfl⟩⟩
      refine ⟨_, rfl, ?_⟩
      refine hK.out _ _ ⟨(blk_cell BK172.out 0).trans rfl, (blk_cell BK172.out 1).trans rfl, (blk_cell BK173.out 0).trans rfl, (blk_cell BK173.out 1).trans rfl⟩ (fun hHeld => ?_)
      clear hK K
      refine norm_ (a' := ?_) ?_ ?_
      rotate_left
      · show Act.put _ (some 81) _ = _
        simp only [Act.put, setIfInBounds_toArray, set_cons_zero, set_cons_succ, i64_w, i32_w]
        rfl
      refine one_ (i := 11) (N := some 87) #[true, true, true, true, true, true, true, true, true, true, true, true, false, true, false] rfl rfl (one_of HT_.out (by kernel_rfl)) (by decide) (fun K hK => ?_)
      refine goes_ Try.func21 (by kernel_rfl) rfl #[.int .i64 a2_1, .int .i64 a3_1, .int .u8 a4] (by rfl) rfl rfl (by (try simp only [List.map_toArray, List.map_cons, List.map_nil]); first | done | rfl | (simp only [List.length_drop, List.length_take]; rfl)) ?_
      with_reducible refine (millwrightlaw04_mid.calls a2_1 a3_1 a4 t187 _ A18.out).mono ?_
      rintro e w' ⟨rfl, ⟨nd, rfl⟩⟩
      refine ⟨_, rfl, ?_⟩
      refine hK.out _ _ ⟨(blk_cell BK172.out 0).trans rfl, (blk_cell BK172.out 1).trans rfl, (blk_cell BK173.out 0).trans rfl, (blk_cell BK173.out 1).trans rfl⟩ (fun hHeld => ?_)
      clear hK K
      refine norm_ (a' := ?_) ?_ ?_
      rotate_left
      · show Act.put _ (some 87) _ = _
        simp only [Act.put, setIfInBounds_toArray, set_cons_zero, set_cons_succ, i64_w, i32_w]
        rfl
      refine pure_ (i := 12) (N := some 88) (v := ?_) (a' := ?_) #[true, true, true, true, true, true, true, true, true, true, true, true, true, true, false] rfl rfl (any_of HT_.out (by kernel_rfl)) (fun _ _ _ h => h) (Or.inl ⟨by rfl, ?_⟩) ?_ ?_
      rotate_left
      · intro w'
        go_simp
        with_reducible rfl
      rotate_left
      · simp only [Act.put, setIfInBounds_toArray, set_cons_zero, set_cons_succ, i64_w, i32_w]
        rfl
      exact norm_ (by simp only [putAll, Act.put, setIfInBounds_toArray, set_cons_zero, set_cons_succ]) (hCont (gb188) _ ⟨hHeld, BK170.out, BK171.out, BK172.out, BK173.out, BK185.out, BK188.out, GW188.out, GE188.out, NB170_188.out, NB188_170.out, NB171_188.out, NB188_171.out, NB172_188.out, NB188_172.out, NB173_188.out, NB188_173.out, NB185_188.out, NB188_185.out, (by repeat (first | (with_reducible first | exact HB.out | apply below_alloc | apply pw_below_drewN | apply below_drew1 | refine below_set ?_ GE170.out | refine below_set ?_ GE171.out | refine below_set ?_ GE172.out | refine below_set ?_ GE173.out | refine below_set ?_ GE185.out | refine below_set ?_ GE188.out) | exact HB.out))⟩)
  rintro gb188 w41 ⟨hS_, h0_, h1_, h2_, h3_, h4_, h5_, h6_, h7_, h8_, h9_, h10_, h11_, h12_, h13_, h14_, h15_, h16_, h17_, h18_⟩
  clear BK170 BK171 BK172 BK173 BK185 HB
  have BK170 := Aside0.mk h0_
  have BK171 := Aside0.mk h1_
  have BK172 := Aside0.mk h2_
  have BK173 := Aside0.mk h3_
  have BK185 := Aside0.mk h4_
  have BK188 := Aside0.mk h5_
  have GW188 := Aside0.mk h6_
  have GE188 := Aside0.mk h7_
  have NB170_188 := Aside0.mk h8_
  have NB188_170 := Aside0.mk h9_
  have NB171_188 := Aside0.mk h10_
  have NB188_171 := Aside0.mk h11_
  have NB172_188 := Aside0.mk h12_
  have NB188_172 := Aside0.mk h13_
  have NB173_188 := Aside0.mk h14_
  have NB188_173 := Aside0.mk h15_
  have NB185_188 := Aside0.mk h16_
  have NB188_185 := Aside0.mk h17_
  have HB := Aside0.mk h18_
  clear h0_ h1_ h2_ h3_ h4_ h5_ h6_ h7_ h8_ h9_ h10_ h11_ h12_ h13_ h14_ h15_ h16_ h17_ h18_
  have hHeld := hS_
  refine norm_ (a' := ?_) ?_ ?_
  rotate_left
  · simp only [putAll, Act.put, setIfInBounds_toArray, set_cons_zero, set_cons_succ]
    rfl
  refine one_ (i := 14) (N := none) #[true, true, true, true, true, true, true, true, true, true, true, true, true, true, true] rfl rfl (one_of HT_.out (by kernel_rfl)) (by decide) (fun K hK => ?_)
  have hs42 : w41.cell? ⟨gb188, 0, none⟩ = some (.int .i64 0) := (blk_cell BK188.out 0).trans rfl
  have hfs42 := blk_frozen BK188.out 0
  have hns42_0 := NB170_188.out
  have hns42_1 := NB171_188.out
  have hns42_2 := NB172_188.out
  have hns42_3 := NB173_188.out
  have hns42_4 := NB185_188.out
  have hms42_0 := NB188_170.out
  have hms42_1 := NB188_171.out
  have hms42_2 := NB188_172.out
  have hms42_3 := NB188_173.out
  have hms42_4 := NB188_185.out
  have hs43 : w41.cell? ⟨gb188, 1, none⟩ = some (.int .i64 0) := (blk_cell BK188.out 1).trans rfl
  have hfs43 := blk_frozen BK188.out 1
  have hns43_0 := NB170_188.out
  have hns43_1 := NB171_188.out
  have hns43_2 := NB172_188.out
  have hns43_3 := NB173_188.out
  have hns43_4 := NB185_188.out
  have hms43_0 := NB188_170.out
  have hms43_1 := NB188_171.out
  have hms43_2 := NB188_172.out
  have hms43_3 := NB188_173.out
  have hms43_4 := NB188_185.out
  refine skip_ (w1 := ?_) (by rfl) rfl ?_ ?_
  rotate_left
  · go_simp
    rfl
  refine hK.out _ _ ⟨((cell_far (p := ⟨gb188, _, none⟩) NB172_188.out _).trans (((cell_far (p := ⟨gb188, _, none⟩) NB172_188.out _).trans (hHeld.1)))), ((cell_far (p := ⟨gb188, _, none⟩) NB172_188.out _).trans (((cell_far (p := ⟨gb188, _, none⟩) NB172_188.out _).trans (hHeld.2.1)))), ((cell_far (p := ⟨gb188, _, none⟩) NB173_188.out _).trans (((cell_far (p := ⟨gb188, _, none⟩) NB173_188.out _).trans (hHeld.2.2.1)))), ((cell_far (p := ⟨gb188, _, none⟩) NB173_188.out _).trans (((cell_far (p := ⟨gb188, _, none⟩) NB173_188.out _).trans (hHeld.2.2.2))))⟩ (fun hHeld => ?_)
  clear hK K
  refine done_ (done_of HT_.out (by kernel_rfl)) ?_
  go_upto_region 4 with (fail)
  go_cut [101] (fun v101 wc => ∃ (kq : Nat) (x101_18 : Bool), v101 = .bool x101_18 ∧ Aside0 (millwrightlaw04_CheckBetween.j0 kq t174 x101_18 a2_0 a2_1 a3_0 a3_1 t186 t187 = some true) ∧ Aside0 (kq ≤ k) ∧ Aside0 (wc.heap[gb170]? = some (.cells #[.int .i64 a0_0, .int .i64 a0_1, .int .i64 a0_2, .int .i64 a0_3, .int .i64 a0_4, .int .i64 a0_5, .int .i64 a0_6, .int .i64 a0_7, .int .i64 a0_8, .int .i64 a0_9] 23 (0, 0))) ∧ Aside0 (wc.heap[gb171]? = some (.cells #[.int .i64 a1_0, .int .i64 a1_1, .int .i64 a1_2, .int .i64 a1_3, .int .i64 a1_4, .int .i64 a1_5, .int .i64 a1_6, .int .i64 a1_7, .int .i64 a1_8, .int .i64 a1_9] 23 (0, 0))) ∧ Aside0 (wc.heap[gb172]? = some (.cells #[.int .i64 a2_0, .int .i64 a2_1] 39 (0, 0))) ∧ Aside0 (wc.heap[gb173]? = some (.cells #[.int .i64 a3_0, .int .i64 a3_1] 39 (0, 0))) ∧ Aside0 (wc.heap[gb185]? = some (.cells #[.int .i64 t175, .int .i64 t176, .int .i64 t177, .int .i64 t178, .int .i64 t179, .int .i64 t180, .int .i64 t181, .int .i64 t182, .int .i64 t183, .int .i64 t184] 23 (0, 0))) ∧ Aside0 (wc.heap[gb188]? = some (.cells #[.int .i64 t186, .int .i64 t187] 39 (0, 0))) ∧ Aside0 (Below w.heap.size w wc))
  case first =>
    have H := HC19.out
    clear HC19
    replace H := Option.bind_eq_some_iff.mp H
    obtain ⟨t189, A440, H⟩ := H
    (try dsimp only at H)
    have A44 := Aside0.mk A440
    clear A440
    by_cases c45 : t189 = 0
    · rw [if_pos c45] at H
      have c45b0 : (t189 == 0) = true := beq_iff_eq.mpr c45
      have c45b1 : (t189 != 0) = false := bne_eq_false_iff_eq.mpr c45
      clear c45
      (first | rw [c45b0] | (simp only [i64_w, i32_w]; rw [c45b0]) | skip)
      replace H := Option.bind_eq_some_iff.mp H
      obtain ⟨t190, A460, H⟩ := H
      (try dsimp only at H)
      have A46 := Aside0.mk A460
      clear A460
      by_cases c47 : t190 = 0
      · rw [if_pos c47] at H
        have c47b0 : (t190 == 0) = true := beq_iff_eq.mpr c47
        have c47b1 : (t190 != 0) = false := bne_eq_false_iff_eq.mpr c47
        clear c47
        replace H := Option.bind_eq_some_iff.mp H
        obtain ⟨t191, A480, H⟩ := H
        (try dsimp only at H)
        have A48 := Aside0.mk A480
        clear A480
        have H' := Aside0.mk H
        clear H
        have hnb49 := NB170_171.out
        have hnc49 := NB171_170.out
        have hnb50 := NB170_172.out
        have hnc50 := NB172_170.out
        have hnb51 := NB170_173.out
        have hnc51 := NB173_170.out
        have hnb52 := NB170_185.out
        have hnc52 := NB185_170.out
        have hnb53 := NB170_188.out
        have hnc53 := NB188_170.out
        have hcz54_0 : w41.cell? ⟨gb170, 0, none⟩ = some (.int .i64 a0_0) := (blk_cell BK170.out 0).trans rfl
        have hcz54_1 : w41.cell? ⟨gb170, 1, none⟩ = some (.int .i64 a0_1) := (blk_cell BK170.out 1).trans rfl
        have hcz54_2 : w41.cell? ⟨gb170, 2, none⟩ = some (.int .i64 a0_2) := (blk_cell BK170.out 2).trans rfl
        have hcz54_3 : w41.cell? ⟨gb170, 3, none⟩ = some (.int .i64 a0_3) := (blk_cell BK170.out 3).trans rfl
        have hcz54_4 : w41.cell? ⟨gb170, 4, none⟩ = some (.int .i64 a0_4) := (blk_cell BK170.out 4).trans rfl
        have hcz54_5 : w41.cell? ⟨gb170, 5, none⟩ = some (.int .i64 a0_5) := (blk_cell BK170.out 5).trans rfl
        have hcz54_6 : w41.cell? ⟨gb170, 6, none⟩ = some (.int .i64 a0_6) := (blk_cell BK170.out 6).trans rfl
        have hcz54_7 : w41.cell? ⟨gb170, 7, none⟩ = some (.int .i64 a0_7) := (blk_cell BK170.out 7).trans rfl
        have hcz54_8 : w41.cell? ⟨gb170, 8, none⟩ = some (.int .i64 a0_8) := (blk_cell BK170.out 8).trans rfl
        have hcz54_9 : w41.cell? ⟨gb170, 9, none⟩ = some (.int .i64 a0_9) := (blk_cell BK170.out 9).trans rfl
        have hfz54_0 := blk_frozen BK170.out 0
        have hfz54_1 := blk_frozen BK170.out 1
        have hfz54_2 := blk_frozen BK170.out 2
        have hfz54_3 := blk_frozen BK170.out 3
        have hfz54_4 := blk_frozen BK170.out 4
        have hfz54_5 := blk_frozen BK170.out 5
        have hfz54_6 := blk_frozen BK170.out 6
        have hfz54_7 := blk_frozen BK170.out 7
        have hfz54_8 := blk_frozen BK170.out 8
        have hfz54_9 := blk_frozen BK170.out 9
        go_wp2_with (first | ((with_reducible refine gate_callee (f := 17) rfl ?_); refine goesL_ (some 90) rfl rfl Try.func17 (by kernel_rfl) rfl #[.agg #[.int .i64 a0_0, .int .i64 a0_1, .int .i64 a0_2, .int .i64 a0_3, .int .i64 a0_4, .int .i64 a0_5, .int .i64 a0_6, .int .i64 a0_7, .int .i64 a0_8, .int .i64 a0_9]] rfl (by (try simp only [List.map_toArray, List.map_cons, List.map_nil]); first | done | rfl | (simp only [List.length_drop, List.length_take]; rfl)) ?_; (with_reducible refine (check_Config.calls k a0_0 a0_1 a0_2 a0_3 a0_4 a0_5 a0_6 a0_7 a0_8 a0_9 t189 _ A44.out).mono ?_); rintro e w55 ⟨rfl, hb⟩; refine ⟨_, rfl, ?_⟩; have n0_ := Aside0.mk (blk_below (g := gb170) (o := .cells #[.int .i64 a0_0, .int .i64 a0_1, .int .i64 a0_2, .int .i64 a0_3, .int .i64 a0_4, .int .i64 a0_5, .int .i64 a0_6, .int .i64 a0_7, .int .i64 a0_8, .int .i64 a0_9] 23 (0, 0)) (by (with_reducible repeat (first | refine blk_drewN ?_ _ | refine blk_drew ?_ | refine blk_alloc ?_ _)); refine blk_far ?_ NB170_188.out _; (with_reducible repeat (first | refine blk_drewN ?_ _ | refine blk_drew ?_ | refine blk_alloc ?_ _)); refine blk_far ?_ NB170_188.out _; (with_reducible repeat (first | refine blk_drewN ?_ _ | refine blk_drew ?_ | refine blk_alloc ?_ _)); exact BK170.out) hb); have n1_ := Aside0.mk (blk_below (g := gb171) (o := .cells #[.int .i64 a1_0, .int .i64 a1_1, .int .i64 a1_2, .int .i64 a1_3, .int .i64 a1_4, .int .i64 a1_5, .int .i64 a1_6, .int .i64 a1_7, .int .i64 a1_8, .int .i64 a1_9] 23 (0, 0)) (by (with_reducible repeat (first | refine blk_drewN ?_ _ | refine blk_drew ?_ | refine blk_alloc ?_ _)); refine blk_far ?_ NB171_188.out _; (with_reducible repeat (first | refine blk_drewN ?_ _ | refine blk_drew ?_ | refine blk_alloc ?_ _)); refine blk_far ?_ NB171_188.out _; (with_reducible repeat (first | refine blk_drewN ?_ _ | refine blk_drew ?_ | refine blk_alloc ?_ _)); exact BK171.out) hb); have n2_ := Aside0.mk (blk_below (g := gb172) (o := .cells #[.int .i64 a2_0, .int .i64 a2_1] 39 (0, 0)) (by (with_reducible repeat (first | refine blk_drewN ?_ _ | refine blk_drew ?_ | refine blk_alloc ?_ _)); refine blk_far ?_ NB172_188.out _; (with_reducible repeat (first | refine blk_drewN ?_ _ | refine blk_drew ?_ | refine blk_alloc ?_ _)); refine blk_far ?_ NB172_188.out _; (with_reducible repeat (first | refine blk_drewN ?_ _ | refine blk_drew ?_ | refine blk_alloc ?_ _)); exact BK172.out) hb); have n3_ := Aside0.mk (blk_below (g := gb173) (o := .cells #[.int .i64 a3_0, .int .i64 a3_1] 39 (0, 0)) (by (with_reducible repeat (first | refine blk_drewN ?_ _ | refine blk_drew ?_ | refine blk_alloc ?_ _)); refine blk_far ?_ NB173_188.out _; (with_reducible repeat (first | refine blk_drewN ?_ _ | refine blk_drew ?_ | refine blk_alloc ?_ _)); refine blk_far ?_ NB173_188.out _; (with_reducible repeat (first | refine blk_drewN ?_ _ | refine blk_drew ?_ | refine blk_alloc ?_ _)); exact BK173.out) hb); have n4_ := Aside0.mk (blk_below (g := gb185) (o := .cells #[.int .i64 t175, .int .i64 t176, .int .i64 t177, .int .i64 t178, .int .i64 t179, .int .i64 t180, .int .i64 t181, .int .i64 t182, .int .i64 t183, .int .i64 t184] 23 (0, 0)) (by (with_reducible repeat (first | refine blk_drewN ?_ _ | refine blk_drew ?_ | refine blk_alloc ?_ _)); refine blk_far ?_ NB185_188.out _; (with_reducible repeat (first | refine blk_drewN ?_ _ | refine blk_drew ?_ | refine blk_alloc ?_ _)); refine blk_far ?_ NB185_188.out _; (with_reducible repeat (first | refine blk_drewN ?_ _ | refine blk_drew ?_ | refine blk_alloc ?_ _)); exact BK185.out) hb); have n5_ := Aside0.mk (blk_below (g := gb188) (o := .cells #[.int .i64 t186, .int .i64 t187] 39 (0, 0)) (by (with_reducible repeat (first | refine blk_drewN ?_ _ | refine blk_drew ?_ | refine blk_alloc ?_ _)); refine blk_put (cs := #[.int .i64 t186, .int .i64 0]) ?_ 1 _ rfl; (with_reducible repeat (first | refine blk_drewN ?_ _ | refine blk_drew ?_ | refine blk_alloc ?_ _)); refine blk_put (cs := #[.int .i64 0, .int .i64 0]) ?_ 0 _ rfl; (with_reducible repeat (first | refine blk_drewN ?_ _ | refine blk_drew ?_ | refine blk_alloc ?_ _)); exact BK188.out) hb); have n6_ := Aside0.mk (below_step (by repeat (first | (with_reducible first | exact HB.out | apply below_alloc | apply pw_below_drewN | apply below_drew1 | refine below_set ?_ GE170.out | refine below_set ?_ GE171.out | refine below_set ?_ GE172.out | refine below_set ?_ GE173.out | refine below_set ?_ GE185.out | refine below_set ?_ GE188.out) | exact HB.out)) hb); clear BK170; clear BK171; clear BK172; clear BK173; clear BK185; clear BK188; clear HB; have BK170 := n0_; have BK171 := n1_; have BK172 := n2_; have BK173 := n3_; have BK185 := n4_; have BK188 := n5_; have HB := n6_; clear n0_ n1_ n2_ n3_ n4_ n5_ n6_; (try clear hb); (try clear hb2); (try clear hk); (try clear hi); have hnb56 := NB171_172.out; have hnc56 := NB172_171.out; have hnb57 := NB171_173.out; have hnc57 := NB173_171.out; have hnb58 := NB171_185.out; have hnc58 := NB185_171.out; have hnb59 := NB171_188.out; have hnc59 := NB188_171.out; have hcz60_0 : w55.cell? ⟨gb171, 0, none⟩ = some (.int .i64 a1_0) := (blk_cell BK171.out 0).trans rfl; have hcz60_1 : w55.cell? ⟨gb171, 1, none⟩ = some (.int .i64 a1_1) := (blk_cell BK171.out 1).trans rfl; have hcz60_2 : w55.cell? ⟨gb171, 2, none⟩ = some (.int .i64 a1_2) := (blk_cell BK171.out 2).trans rfl; have hcz60_3 : w55.cell? ⟨gb171, 3, none⟩ = some (.int .i64 a1_3) := (blk_cell BK171.out 3).trans rfl; have hcz60_4 : w55.cell? ⟨gb171, 4, none⟩ = some (.int .i64 a1_4) := (blk_cell BK171.out 4).trans rfl; have hcz60_5 : w55.cell? ⟨gb171, 5, none⟩ = some (.int .i64 a1_5) := (blk_cell BK171.out 5).trans rfl; have hcz60_6 : w55.cell? ⟨gb171, 6, none⟩ = some (.int .i64 a1_6) := (blk_cell BK171.out 6).trans rfl; have hcz60_7 : w55.cell? ⟨gb171, 7, none⟩ = some (.int .i64 a1_7) := (blk_cell BK171.out 7).trans rfl; have hcz60_8 : w55.cell? ⟨gb171, 8, none⟩ = some (.int .i64 a1_8) := (blk_cell BK171.out 8).trans rfl; have hcz60_9 : w55.cell? ⟨gb171, 9, none⟩ = some (.int .i64 a1_9) := (blk_cell BK171.out 9).trans rfl; have hfz60_0 := blk_frozen BK171.out 0; have hfz60_1 := blk_frozen BK171.out 1; have hfz60_2 := blk_frozen BK171.out 2; have hfz60_3 := blk_frozen BK171.out 3; have hfz60_4 := blk_frozen BK171.out 4; have hfz60_5 := blk_frozen BK171.out 5; have hfz60_6 := blk_frozen BK171.out 6; have hfz60_7 := blk_frozen BK171.out 7; have hfz60_8 := blk_frozen BK171.out 8; have hfz60_9 := blk_frozen BK171.out 9) | (go_at_call 17; (with_reducible refine (check_Config.calls k a1_0 a1_1 a1_2 a1_3 a1_4 a1_5 a1_6 a1_7 a1_8 a1_9 t190 _ A46.out).mono ?_); rintro e w61 ⟨rfl, hb⟩; have n0_ := Aside0.mk (blk_below (by exact BK170.out) hb); have n1_ := Aside0.mk (blk_below (by exact BK171.out) hb); have n2_ := Aside0.mk (blk_below (by exact BK172.out) hb); have n3_ := Aside0.mk (blk_below (by exact BK173.out) hb); have n4_ := Aside0.mk (blk_below (by exact BK185.out) hb); have n5_ := Aside0.mk (blk_below (by exact BK188.out) hb); have n6_ := Aside0.mk (below_step (by repeat (first | (with_reducible first | exact HB.out | apply below_alloc | apply pw_below_drewN | apply below_drew1 | refine below_set ?_ GE170.out | refine below_set ?_ GE171.out | refine below_set ?_ GE172.out | refine below_set ?_ GE173.out | refine below_set ?_ GE185.out | refine below_set ?_ GE188.out) | exact HB.out)) hb); clear BK170; clear BK171; clear BK172; clear BK173; clear BK185; clear BK188; clear HB; have BK170 := n0_; have BK171 := n1_; have BK172 := n2_; have BK173 := n3_; have BK185 := n4_; have BK188 := n5_; have HB := n6_; clear n0_ n1_ n2_ n3_ n4_ n5_ n6_; (try clear hb); (try clear hb2); (try clear hk); (try clear hi); have hnb62 := NB185_172.out; have hnc62 := NB172_185.out; have hnb63 := NB185_173.out; have hnc63 := NB173_185.out; have hnb64 := NB185_188.out; have hnc64 := NB188_185.out; have hcz65_0 : w61.cell? ⟨gb185, 0, none⟩ = some (.int .i64 t175) := (blk_cell BK185.out 0).trans rfl; have hcz65_1 : w61.cell? ⟨gb185, 1, none⟩ = some (.int .i64 t176) := (blk_cell BK185.out 1).trans rfl; have hcz65_2 : w61.cell? ⟨gb185, 2, none⟩ = some (.int .i64 t177) := (blk_cell BK185.out 2).trans rfl; have hcz65_3 : w61.cell? ⟨gb185, 3, none⟩ = some (.int .i64 t178) := (blk_cell BK185.out 3).trans rfl; have hcz65_4 : w61.cell? ⟨gb185, 4, none⟩ = some (.int .i64 t179) := (blk_cell BK185.out 4).trans rfl; have hcz65_5 : w61.cell? ⟨gb185, 5, none⟩ = some (.int .i64 t180) := (blk_cell BK185.out 5).trans rfl; have hcz65_6 : w61.cell? ⟨gb185, 6, none⟩ = some (.int .i64 t181) := (blk_cell BK185.out 6).trans rfl; have hcz65_7 : w61.cell? ⟨gb185, 7, none⟩ = some (.int .i64 t182) := (blk_cell BK185.out 7).trans rfl; have hcz65_8 : w61.cell? ⟨gb185, 8, none⟩ = some (.int .i64 t183) := (blk_cell BK185.out 8).trans rfl; have hcz65_9 : w61.cell? ⟨gb185, 9, none⟩ = some (.int .i64 t184) := (blk_cell BK185.out 9).trans rfl; have hfz65_0 := blk_frozen BK185.out 0; have hfz65_1 := blk_frozen BK185.out 1; have hfz65_2 := blk_frozen BK185.out 2; have hfz65_3 := blk_frozen BK185.out 3; have hfz65_4 := blk_frozen BK185.out 4; have hfz65_5 := blk_frozen BK185.out 5; have hfz65_6 := blk_frozen BK185.out 6; have hfz65_7 := blk_frozen BK185.out 7; have hfz65_8 := blk_frozen BK185.out 8; have hfz65_9 := blk_frozen BK185.out 9) | (go_at_call 17; (with_reducible refine (check_Config.calls k t175 t176 t177 t178 t179 t180 t181 t182 t183 t184 t191 _ A48.out).mono ?_); rintro e w66 ⟨rfl, hb⟩; have n0_ := Aside0.mk (blk_below (by exact BK170.out) hb); have n1_ := Aside0.mk (blk_below (by exact BK171.out) hb); have n2_ := Aside0.mk (blk_below (by exact BK172.out) hb); have n3_ := Aside0.mk (blk_below (by exact BK173.out) hb); have n4_ := Aside0.mk (blk_below (by exact BK185.out) hb); have n5_ := Aside0.mk (blk_below (by exact BK188.out) hb); have n6_ := Aside0.mk (below_step (by repeat (first | (with_reducible first | exact HB.out | apply below_alloc | apply pw_below_drewN | apply below_drew1 | refine below_set ?_ GE170.out | refine below_set ?_ GE171.out | refine below_set ?_ GE172.out | refine below_set ?_ GE173.out | refine below_set ?_ GE185.out | refine below_set ?_ GE188.out) | exact HB.out)) hb); clear BK170; clear BK171; clear BK172; clear BK173; clear BK185; clear BK188; clear HB; have BK170 := n0_; have BK171 := n1_; have BK172 := n2_; have BK173 := n3_; have BK185 := n4_; have BK188 := n5_; have HB := n6_; clear n0_ n1_ n2_ n3_ n4_ n5_ n6_; (try clear hb); (try clear hb2); (try clear hk); (try clear hi)))
        first | go_meet | (refine Met.intro ?_; go_step; (try rw [c45b0]); (try rw [c47b0]); (repeat apply Exists.intro); refine ⟨?rel, rfl⟩)
        case rel => exact ⟨_, ((t191 != 0)), (by first | rfl | (simp; done) | (simp [*]; done)), H', ⟨by first | omega | exact Nat.le_refl _⟩, ⟨BK170.out⟩, ⟨BK171.out⟩, ⟨BK172.out⟩, ⟨BK173.out⟩, ⟨BK185.out⟩, ⟨BK188.out⟩, ⟨by repeat (first | (with_reducible first | exact HB.out | apply below_alloc | apply pw_below_drewN | apply below_drew1 | refine below_set ?_ GE170.out | refine below_set ?_ GE171.out | refine below_set ?_ GE172.out | refine below_set ?_ GE173.out | refine below_set ?_ GE185.out | refine below_set ?_ GE188.out) | exact HB.out)⟩⟩
      · rw [if_neg c47] at H
        have c47b0 : (t190 == 0) = false := beq_eq_false_iff_ne.mpr c47
        have c47b1 : (t190 != 0) = true := bne_iff_ne.mpr c47
        have H' := Aside0.mk H
        clear H
        have hnb67 := NB170_171.out
        have hnc67 := NB171_170.out
        have hnb68 := NB170_172.out
        have hnc68 := NB172_170.out
        have hnb69 := NB170_173.out
        have hnc69 := NB173_170.out
        have hnb70 := NB170_185.out
        have hnc70 := NB185_170.out
        have hnb71 := NB170_188.out
        have hnc71 := NB188_170.out
        have hcz72_0 : w41.cell? ⟨gb170, 0, none⟩ = some (.int .i64 a0_0) := (blk_cell BK170.out 0).trans rfl
        have hcz72_1 : w41.cell? ⟨gb170, 1, none⟩ = some (.int .i64 a0_1) := (blk_cell BK170.out 1).trans rfl
        have hcz72_2 : w41.cell? ⟨gb170, 2, none⟩ = some (.int .i64 a0_2) := (blk_cell BK170.out 2).trans rfl
        have hcz72_3 : w41.cell? ⟨gb170, 3, none⟩ = some (.int .i64 a0_3) := (blk_cell BK170.out 3).trans rfl
        have hcz72_4 : w41.cell? ⟨gb170, 4, none⟩ = some (.int .i64 a0_4) := (blk_cell BK170.out 4).trans rfl
        have hcz72_5 : w41.cell? ⟨gb170, 5, none⟩ = some (.int .i64 a0_5) := (blk_cell BK170.out 5).trans rfl
        have hcz72_6 : w41.cell? ⟨gb170, 6, none⟩ = some (.int .i64 a0_6) := (blk_cell BK170.out 6).trans rfl
        have hcz72_7 : w41.cell? ⟨gb170, 7, none⟩ = some (.int .i64 a0_7) := (blk_cell BK170.out 7).trans rfl
        have hcz72_8 : w41.cell? ⟨gb170, 8, none⟩ = some (.int .i64 a0_8) := (blk_cell BK170.out 8).trans rfl
        have hcz72_9 : w41.cell? ⟨gb170, 9, none⟩ = some (.int .i64 a0_9) := (blk_cell BK170.out 9).trans rfl
        have hfz72_0 := blk_frozen BK170.out 0
        have hfz72_1 := blk_frozen BK170.out 1
        have hfz72_2 := blk_frozen BK170.out 2
        have hfz72_3 := blk_frozen BK170.out 3
        have hfz72_4 := blk_frozen BK170.out 4
        have hfz72_5 := blk_frozen BK170.out 5
        have hfz72_6 := blk_frozen BK170.out 6
        have hfz72_7 := blk_frozen BK170.out 7
        have hfz72_8 := blk_frozen BK170.out 8
        have hfz72_9 := blk_frozen BK170.out 9
        go_wp2_with (first | ((with_reducible refine gate_callee (f := 17) rfl ?_); refine goesL_ (some 90) rfl rfl Try.func17 (by kernel_rfl) rfl #[.agg #[.int .i64 a0_0, .int .i64 a0_1, .int .i64 a0_2, .int .i64 a0_3, .int .i64 a0_4, .int .i64 a0_5, .int .i64 a0_6, .int .i64 a0_7, .int .i64 a0_8, .int .i64 a0_9]] rfl (by (try simp only [List.map_toArray, List.map_cons, List.map_nil]); first | done | rfl | (simp only [List.length_drop, List.length_take]; rfl)) ?_; (with_reducible refine (check_Config.calls k a0_0 a0_1 a0_2 a0_3 a0_4 a0_5 a0_6 a0_7 a0_8 a0_9 t189 _ A44.out).mono ?_); rintro e w73 ⟨rfl, hb⟩; refine ⟨_, rfl, ?_⟩; have n0_ := Aside0.mk (blk_below (g := gb170) (o := .cells #[.int .i64 a0_0, .int .i64 a0_1, .int .i64 a0_2, .int .i64 a0_3, .int .i64 a0_4, .int .i64 a0_5, .int .i64 a0_6, .int .i64 a0_7, .int .i64 a0_8, .int .i64 a0_9] 23 (0, 0)) (by (with_reducible repeat (first | refine blk_drewN ?_ _ | refine blk_drew ?_ | refine blk_alloc ?_ _)); refine blk_far ?_ NB170_188.out _; (with_reducible repeat (first | refine blk_drewN ?_ _ | refine blk_drew ?_ | refine blk_alloc ?_ _)); refine blk_far ?_ NB170_188.out _; (with_reducible repeat (first | refine blk_drewN ?_ _ | refine blk_drew ?_ | refine blk_alloc ?_ _)); exact BK170.out) hb); have n1_ := Aside0.mk (blk_below (g := gb171) (o := .cells #[.int .i64 a1_0, .int .i64 a1_1, .int .i64 a1_2, .int .i64 a1_3, .int .i64 a1_4, .int .i64 a1_5, .int .i64 a1_6, .int .i64 a1_7, .int .i64 a1_8, .int .i64 a1_9] 23 (0, 0)) (by (with_reducible repeat (first | refine blk_drewN ?_ _ | refine blk_drew ?_ | refine blk_alloc ?_ _)); refine blk_far ?_ NB171_188.out _; (with_reducible repeat (first | refine blk_drewN ?_ _ | refine blk_drew ?_ | refine blk_alloc ?_ _)); refine blk_far ?_ NB171_188.out _; (with_reducible repeat (first | refine blk_drewN ?_ _ | refine blk_drew ?_ | refine blk_alloc ?_ _)); exact BK171.out) hb); have n2_ := Aside0.mk (blk_below (g := gb172) (o := .cells #[.int .i64 a2_0, .int .i64 a2_1] 39 (0, 0)) (by (with_reducible repeat (first | refine blk_drewN ?_ _ | refine blk_drew ?_ | refine blk_alloc ?_ _)); refine blk_far ?_ NB172_188.out _; (with_reducible repeat (first | refine blk_drewN ?_ _ | refine blk_drew ?_ | refine blk_alloc ?_ _)); refine blk_far ?_ NB172_188.out _; (with_reducible repeat (first | refine blk_drewN ?_ _ | refine blk_drew ?_ | refine blk_alloc ?_ _)); exact BK172.out) hb); have n3_ := Aside0.mk (blk_below (g := gb173) (o := .cells #[.int .i64 a3_0, .int .i64 a3_1] 39 (0, 0)) (by (with_reducible repeat (first | refine blk_drewN ?_ _ | refine blk_drew ?_ | refine blk_alloc ?_ _)); refine blk_far ?_ NB173_188.out _; (with_reducible repeat (first | refine blk_drewN ?_ _ | refine blk_drew ?_ | refine blk_alloc ?_ _)); refine blk_far ?_ NB173_188.out _; (with_reducible repeat (first | refine blk_drewN ?_ _ | refine blk_drew ?_ | refine blk_alloc ?_ _)); exact BK173.out) hb); have n4_ := Aside0.mk (blk_below (g := gb185) (o := .cells #[.int .i64 t175, .int .i64 t176, .int .i64 t177, .int .i64 t178, .int .i64 t179, .int .i64 t180, .int .i64 t181, .int .i64 t182, .int .i64 t183, .int .i64 t184] 23 (0, 0)) (by (with_reducible repeat (first | refine blk_drewN ?_ _ | refine blk_drew ?_ | refine blk_alloc ?_ _)); refine blk_far ?_ NB185_188.out _; (with_reducible repeat (first | refine blk_drewN ?_ _ | refine blk_drew ?_ | refine blk_alloc ?_ _)); refine blk_far ?_ NB185_188.out _; (with_reducible repeat (first | refine blk_drewN ?_ _ | refine blk_drew ?_ | refine blk_alloc ?_ _)); exact BK185.out) hb); have n5_ := Aside0.mk (blk_below (g := gb188) (o := .cells #[.int .i64 t186, .int .i64 t187] 39 (0, 0)) (by (with_reducible repeat (first | refine blk_drewN ?_ _ | refine blk_drew ?_ | refine blk_alloc ?_ _)); refine blk_put (cs := #[.int .i64 t186, .int .i64 0]) ?_ 1 _ rfl; (with_reducible repeat (first | refine blk_drewN ?_ _ | refine blk_drew ?_ | refine blk_alloc ?_ _)); refine blk_put (cs := #[.int .i64 0, .int .i64 0]) ?_ 0 _ rfl; (with_reducible repeat (first | refine blk_drewN ?_ _ | refine blk_drew ?_ | refine blk_alloc ?_ _)); exact BK188.out) hb); have n6_ := Aside0.mk (below_step (by repeat (first | (with_reducible first | exact HB.out | apply below_alloc | apply pw_below_drewN | apply below_drew1 | refine below_set ?_ GE170.out | refine below_set ?_ GE171.out | refine below_set ?_ GE172.out | refine below_set ?_ GE173.out | refine below_set ?_ GE185.out | refine below_set ?_ GE188.out) | exact HB.out)) hb); clear BK170; clear BK171; clear BK172; clear BK173; clear BK185; clear BK188; clear HB; have BK170 := n0_; have BK171 := n1_; have BK172 := n2_; have BK173 := n3_; have BK185 := n4_; have BK188 := n5_; have HB := n6_; clear n0_ n1_ n2_ n3_ n4_ n5_ n6_; (try clear hb); (try clear hb2); (try clear hk); (try clear hi); have hnb74 := NB171_172.out; have hnc74 := NB172_171.out; have hnb75 := NB171_173.out; have hnc75 := NB173_171.out; have hnb76 := NB171_185.out; have hnc76 := NB185_171.out; have hnb77 := NB171_188.out; have hnc77 := NB188_171.out; have hcz78_0 : w73.cell? ⟨gb171, 0, none⟩ = some (.int .i64 a1_0) := (blk_cell BK171.out 0).trans rfl; have hcz78_1 : w73.cell? ⟨gb171, 1, none⟩ = some (.int .i64 a1_1) := (blk_cell BK171.out 1).trans rfl; have hcz78_2 : w73.cell? ⟨gb171, 2, none⟩ = some (.int .i64 a1_2) := (blk_cell BK171.out 2).trans rfl; have hcz78_3 : w73.cell? ⟨gb171, 3, none⟩ = some (.int .i64 a1_3) := (blk_cell BK171.out 3).trans rfl; have hcz78_4 : w73.cell? ⟨gb171, 4, none⟩ = some (.int .i64 a1_4) := (blk_cell BK171.out 4).trans rfl; have hcz78_5 : w73.cell? ⟨gb171, 5, none⟩ = some (.int .i64 a1_5) := (blk_cell BK171.out 5).trans rfl; have hcz78_6 : w73.cell? ⟨gb171, 6, none⟩ = some (.int .i64 a1_6) := (blk_cell BK171.out 6).trans rfl; have hcz78_7 : w73.cell? ⟨gb171, 7, none⟩ = some (.int .i64 a1_7) := (blk_cell BK171.out 7).trans rfl; have hcz78_8 : w73.cell? ⟨gb171, 8, none⟩ = some (.int .i64 a1_8) := (blk_cell BK171.out 8).trans rfl; have hcz78_9 : w73.cell? ⟨gb171, 9, none⟩ = some (.int .i64 a1_9) := (blk_cell BK171.out 9).trans rfl; have hfz78_0 := blk_frozen BK171.out 0; have hfz78_1 := blk_frozen BK171.out 1; have hfz78_2 := blk_frozen BK171.out 2; have hfz78_3 := blk_frozen BK171.out 3; have hfz78_4 := blk_frozen BK171.out 4; have hfz78_5 := blk_frozen BK171.out 5; have hfz78_6 := blk_frozen BK171.out 6; have hfz78_7 := blk_frozen BK171.out 7; have hfz78_8 := blk_frozen BK171.out 8; have hfz78_9 := blk_frozen BK171.out 9) | (go_at_call 17; (with_reducible refine (check_Config.calls k a1_0 a1_1 a1_2 a1_3 a1_4 a1_5 a1_6 a1_7 a1_8 a1_9 t190 _ A46.out).mono ?_); rintro e w79 ⟨rfl, hb⟩; have n0_ := Aside0.mk (blk_below (by exact BK170.out) hb); have n1_ := Aside0.mk (blk_below (by exact BK171.out) hb); have n2_ := Aside0.mk (blk_below (by exact BK172.out) hb); have n3_ := Aside0.mk (blk_below (by exact BK173.out) hb); have n4_ := Aside0.mk (blk_below (by exact BK185.out) hb); have n5_ := Aside0.mk (blk_below (by exact BK188.out) hb); have n6_ := Aside0.mk (below_step (by repeat (first | (with_reducible first | exact HB.out | apply below_alloc | apply pw_below_drewN | apply below_drew1 | refine below_set ?_ GE170.out | refine below_set ?_ GE171.out | refine below_set ?_ GE172.out | refine below_set ?_ GE173.out | refine below_set ?_ GE185.out | refine below_set ?_ GE188.out) | exact HB.out)) hb); clear BK170; clear BK171; clear BK172; clear BK173; clear BK185; clear BK188; clear HB; have BK170 := n0_; have BK171 := n1_; have BK172 := n2_; have BK173 := n3_; have BK185 := n4_; have BK188 := n5_; have HB := n6_; clear n0_ n1_ n2_ n3_ n4_ n5_ n6_; (try clear hb); (try clear hb2); (try clear hk); (try clear hi)))
        first | go_meet | (refine Met.intro ?_; go_step; (try rw [c45b0]); (try rw [c47b0]); (repeat apply Exists.intro); refine ⟨?rel, rfl⟩)
        case rel => exact ⟨_, (false), (by first | rfl | (simp; done) | (simp [*]; done)), H', ⟨by first | omega | exact Nat.le_refl _⟩, ⟨BK170.out⟩, ⟨BK171.out⟩, ⟨BK172.out⟩, ⟨BK173.out⟩, ⟨BK185.out⟩, ⟨BK188.out⟩, ⟨by repeat (first | (with_reducible first | exact HB.out | apply below_alloc | apply pw_below_drewN | apply below_drew1 | refine below_set ?_ GE170.out | refine below_set ?_ GE171.out | refine below_set ?_ GE172.out | refine below_set ?_ GE173.out | refine below_set ?_ GE185.out | refine below_set ?_ GE188.out) | exact HB.out)⟩⟩
    · rw [if_neg c45] at H
      have c45b0 : (t189 == 0) = false := beq_eq_false_iff_ne.mpr c45
      have c45b1 : (t189 != 0) = true := bne_iff_ne.mpr c45
      (first | rw [c45b0] | (simp only [i64_w, i32_w]; rw [c45b0]) | skip)
      have H' := Aside0.mk H
      clear H
      have hnb80 := NB170_171.out
      have hnc80 := NB171_170.out
      have hnb81 := NB170_172.out
      have hnc81 := NB172_170.out
      have hnb82 := NB170_173.out
      have hnc82 := NB173_170.out
      have hnb83 := NB170_185.out
      have hnc83 := NB185_170.out
      have hnb84 := NB170_188.out
      have hnc84 := NB188_170.out
      have hcz85_0 : w41.cell? ⟨gb170, 0, none⟩ = some (.int .i64 a0_0) := (blk_cell BK170.out 0).trans rfl
      have hcz85_1 : w41.cell? ⟨gb170, 1, none⟩ = some (.int .i64 a0_1) := (blk_cell BK170.out 1).trans rfl
      have hcz85_2 : w41.cell? ⟨gb170, 2, none⟩ = some (.int .i64 a0_2) := (blk_cell BK170.out 2).trans rfl
      have hcz85_3 : w41.cell? ⟨gb170, 3, none⟩ = some (.int .i64 a0_3) := (blk_cell BK170.out 3).trans rfl
      have hcz85_4 : w41.cell? ⟨gb170, 4, none⟩ = some (.int .i64 a0_4) := (blk_cell BK170.out 4).trans rfl
      have hcz85_5 : w41.cell? ⟨gb170, 5, none⟩ = some (.int .i64 a0_5) := (blk_cell BK170.out 5).trans rfl
      have hcz85_6 : w41.cell? ⟨gb170, 6, none⟩ = some (.int .i64 a0_6) := (blk_cell BK170.out 6).trans rfl
      have hcz85_7 : w41.cell? ⟨gb170, 7, none⟩ = some (.int .i64 a0_7) := (blk_cell BK170.out 7).trans rfl
      have hcz85_8 : w41.cell? ⟨gb170, 8, none⟩ = some (.int .i64 a0_8) := (blk_cell BK170.out 8).trans rfl
      have hcz85_9 : w41.cell? ⟨gb170, 9, none⟩ = some (.int .i64 a0_9) := (blk_cell BK170.out 9).trans rfl
      have hfz85_0 := blk_frozen BK170.out 0
      have hfz85_1 := blk_frozen BK170.out 1
      have hfz85_2 := blk_frozen BK170.out 2
      have hfz85_3 := blk_frozen BK170.out 3
      have hfz85_4 := blk_frozen BK170.out 4
      have hfz85_5 := blk_frozen BK170.out 5
      have hfz85_6 := blk_frozen BK170.out 6
      have hfz85_7 := blk_frozen BK170.out 7
      have hfz85_8 := blk_frozen BK170.out 8
      have hfz85_9 := blk_frozen BK170.out 9
      go_wp2_with (first | ((with_reducible refine gate_callee (f := 17) rfl ?_); refine goesL_ (some 90) rfl rfl Try.func17 (by kernel_rfl) rfl #[.agg #[.int .i64 a0_0, .int .i64 a0_1, .int .i64 a0_2, .int .i64 a0_3, .int .i64 a0_4, .int .i64 a0_5, .int .i64 a0_6, .int .i64 a0_7, .int .i64 a0_8, .int .i64 a0_9]] rfl (by (try simp only [List.map_toArray, List.map_cons, List.map_nil]); first | done | rfl | (simp only [List.length_drop, List.length_take]; rfl)) ?_; (with_reducible refine (check_Config.calls k a0_0 a0_1 a0_2 a0_3 a0_4 a0_5 a0_6 a0_7 a0_8 a0_9 t189 _ A44.out).mono ?_); rintro e w86 ⟨rfl, hb⟩; refine ⟨_, rfl, ?_⟩; have n0_ := Aside0.mk (blk_below (g := gb170) (o := .cells #[.int .i64 a0_0, .int .i64 a0_1, .int .i64 a0_2, .int .i64 a0_3, .int .i64 a0_4, .int .i64 a0_5, .int .i64 a0_6, .int .i64 a0_7, .int .i64 a0_8, .int .i64 a0_9] 23 (0, 0)) (by (with_reducible repeat (first | refine blk_drewN ?_ _ | refine blk_drew ?_ | refine blk_alloc ?_ _)); refine blk_far ?_ NB170_188.out _; (with_reducible repeat (first | refine blk_drewN ?_ _ | refine blk_drew ?_ | refine blk_alloc ?_ _)); refine blk_far ?_ NB170_188.out _; (with_reducible repeat (first | refine blk_drewN ?_ _ | refine blk_drew ?_ | refine blk_alloc ?_ _)); exact BK170.out) hb); have n1_ := Aside0.mk (blk_below (g := gb171) (o := .cells #[.int .i64 a1_0, .int .i64 a1_1, .int .i64 a1_2, .int .i64 a1_3, .int .i64 a1_4, .int .i64 a1_5, .int .i64 a1_6, .int .i64 a1_7, .int .i64 a1_8, .int .i64 a1_9] 23 (0, 0)) (by (with_reducible repeat (first | refine blk_drewN ?_ _ | refine blk_drew ?_ | refine blk_alloc ?_ _)); refine blk_far ?_ NB171_188.out _; (with_reducible repeat (first | refine blk_drewN ?_ _ | refine blk_drew ?_ | refine blk_alloc ?_ _)); refine blk_far ?_ NB171_188.out _; (with_reducible repeat (first | refine blk_drewN ?_ _ | refine blk_drew ?_ | refine blk_alloc ?_ _)); exact BK171.out) hb); have n2_ := Aside0.mk (blk_below (g := gb172) (o := .cells #[.int .i64 a2_0, .int .i64 a2_1] 39 (0, 0)) (by (with_reducible repeat (first | refine blk_drewN ?_ _ | refine blk_drew ?_ | refine blk_alloc ?_ _)); refine blk_far ?_ NB172_188.out _; (with_reducible repeat (first | refine blk_drewN ?_ _ | refine blk_drew ?_ | refine blk_alloc ?_ _)); refine blk_far ?_ NB172_188.out _; (with_reducible repeat (first | refine blk_drewN ?_ _ | refine blk_drew ?_ | refine blk_alloc ?_ _)); exact BK172.out) hb); have n3_ := Aside0.mk (blk_below (g := gb173) (o := .cells #[.int .i64 a3_0, .int .i64 a3_1] 39 (0, 0)) (by (with_reducible repeat (first | refine blk_drewN ?_ _ | refine blk_drew ?_ | refine blk_alloc ?_ _)); refine blk_far ?_ NB173_188.out _; (with_reducible repeat (first | refine blk_drewN ?_ _ | refine blk_drew ?_ | refine blk_alloc ?_ _)); refine blk_far ?_ NB173_188.out _; (with_reducible repeat (first | refine blk_drewN ?_ _ | refine blk_drew ?_ | refine blk_alloc ?_ _)); exact BK173.out) hb); have n4_ := Aside0.mk (blk_below (g := gb185) (o := .cells #[.int .i64 t175, .int .i64 t176, .int .i64 t177, .int .i64 t178, .int .i64 t179, .int .i64 t180, .int .i64 t181, .int .i64 t182, .int .i64 t183, .int .i64 t184] 23 (0, 0)) (by (with_reducible repeat (first | refine blk_drewN ?_ _ | refine blk_drew ?_ | refine blk_alloc ?_ _)); refine blk_far ?_ NB185_188.out _; (with_reducible repeat (first | refine blk_drewN ?_ _ | refine blk_drew ?_ | refine blk_alloc ?_ _)); refine blk_far ?_ NB185_188.out _; (with_reducible repeat (first | refine blk_drewN ?_ _ | refine blk_drew ?_ | refine blk_alloc ?_ _)); exact BK185.out) hb); have n5_ := Aside0.mk (blk_below (g := gb188) (o := .cells #[.int .i64 t186, .int .i64 t187] 39 (0, 0)) (by (with_reducible repeat (first | refine blk_drewN ?_ _ | refine blk_drew ?_ | refine blk_alloc ?_ _)); refine blk_put (cs := #[.int .i64 t186, .int .i64 0]) ?_ 1 _ rfl; (with_reducible repeat (first | refine blk_drewN ?_ _ | refine blk_drew ?_ | refine blk_alloc ?_ _)); refine blk_put (cs := #[.int .i64 0, .int .i64 0]) ?_ 0 _ rfl; (with_reducible repeat (first | refine blk_drewN ?_ _ | refine blk_drew ?_ | refine blk_alloc ?_ _)); exact BK188.out) hb); have n6_ := Aside0.mk (below_step (by repeat (first | (with_reducible first | exact HB.out | apply below_alloc | apply pw_below_drewN | apply below_drew1 | refine below_set ?_ GE170.out | refine below_set ?_ GE171.out | refine below_set ?_ GE172.out | refine below_set ?_ GE173.out | refine below_set ?_ GE185.out | refine below_set ?_ GE188.out) | exact HB.out)) hb); clear BK170; clear BK171; clear BK172; clear BK173; clear BK185; clear BK188; clear HB; have BK170 := n0_; have BK171 := n1_; have BK172 := n2_; have BK173 := n3_; have BK185 := n4_; have BK188 := n5_; have HB := n6_; clear n0_ n1_ n2_ n3_ n4_ n5_ n6_; (try clear hb); (try clear hb2); (try clear hk); (try clear hi)))
      first | go_meet | (refine Met.intro ?_; go_step; (try rw [c45b0]); (repeat apply Exists.intro); refine ⟨?rel, rfl⟩)
      case rel => exact ⟨_, (false), (by first | rfl | (simp; done) | (simp [*]; done)), H', ⟨by first | omega | exact Nat.le_refl _⟩, ⟨BK170.out⟩, ⟨BK171.out⟩, ⟨BK172.out⟩, ⟨BK173.out⟩, ⟨BK185.out⟩, ⟨BK188.out⟩, ⟨by repeat (first | (with_reducible first | exact HB.out | apply below_alloc | apply pw_below_drewN | apply below_drew1 | refine below_set ?_ GE170.out | refine below_set ?_ GE171.out | refine below_set ?_ GE172.out | refine below_set ?_ GE173.out | refine below_set ?_ GE185.out | refine below_set ?_ GE188.out) | exact HB.out)⟩⟩
  case rest =>
    clear HC19
    try clear c1
    try clear c2
    try clear p2
    try clear c4
    try clear c5
    try clear c6
    try clear c7
    try clear c8
    try clear c17
    try clear c21
    try clear c45
    try clear c45b0
    try clear c45b1
    try clear c47
    try clear c47b0
    try clear c47b1
    try clear c49
    try clear c50
    try clear c51
    try clear c52
    try clear c53
    try clear c56
    try clear c57
    try clear c58
    try clear c59
    try clear c62
    try clear c63
    try clear c64
    try clear c67
    try clear c68
    try clear c69
    try clear c70
    try clear c71
    try clear c74
    try clear c75
    try clear c76
    try clear c77
    try clear c80
    try clear c81
    try clear c82
    try clear c83
    try clear c84
    try clear hcz54_0
    try clear hcz54_1
    try clear hcz54_2
    try clear hcz54_3
    try clear hcz54_4
    try clear hcz54_5
    try clear hcz54_6
    try clear hcz54_7
    try clear hcz54_8
    try clear hcz54_9
    try clear hcz60_0
    try clear hcz60_1
    try clear hcz60_2
    try clear hcz60_3
    try clear hcz60_4
    try clear hcz60_5
    try clear hcz60_6
    try clear hcz60_7
    try clear hcz60_8
    try clear hcz60_9
    try clear hcz65_0
    try clear hcz65_1
    try clear hcz65_2
    try clear hcz65_3
    try clear hcz65_4
    try clear hcz65_5
    try clear hcz65_6
    try clear hcz65_7
    try clear hcz65_8
    try clear hcz65_9
    try clear hcz72_0
    try clear hcz72_1
    try clear hcz72_2
    try clear hcz72_3
    try clear hcz72_4
    try clear hcz72_5
    try clear hcz72_6
    try clear hcz72_7
    try clear hcz72_8
    try clear hcz72_9
    try clear hcz78_0
    try clear hcz78_1
    try clear hcz78_2
    try clear hcz78_3
    try clear hcz78_4
    try clear hcz78_5
    try clear hcz78_6
    try clear hcz78_7
    try clear hcz78_8
    try clear hcz78_9
    try clear hcz85_0
    try clear hcz85_1
    try clear hcz85_2
    try clear hcz85_3
    try clear hcz85_4
    try clear hcz85_5
    try clear hcz85_6
    try clear hcz85_7
    try clear hcz85_8
    try clear hcz85_9
    try clear hfz54_0
    try clear hfz54_1
    try clear hfz54_2
    try clear hfz54_3
    try clear hfz54_4
    try clear hfz54_5
    try clear hfz54_6
    try clear hfz54_7
    try clear hfz54_8
    try clear hfz54_9
    try clear hfz60_0
    try clear hfz60_1
    try clear hfz60_2
    try clear hfz60_3
    try clear hfz60_4
    try clear hfz60_5
    try clear hfz60_6
    try clear hfz60_7
    try clear hfz60_8
    try clear hfz60_9
    try clear hfz65_0
    try clear hfz65_1
    try clear hfz65_2
    try clear hfz65_3
    try clear hfz65_4
    try clear hfz65_5
    try clear hfz65_6
    try clear hfz65_7
    try clear hfz65_8
    try clear hfz65_9
    try clear hfz72_0
    try clear hfz72_1
    try clear hfz72_2
    try clear hfz72_3
    try clear hfz72_4
    try clear hfz72_5
    try clear hfz72_6
    try clear hfz72_7
    try clear hfz72_8
    try clear hfz72_9
    try clear hfz78_0
    try clear hfz78_1
    try clear hfz78_2
    try clear hfz78_3
    try clear hfz78_4
    try clear hfz78_5
    try clear hfz78_6
    try clear hfz78_7
    try clear hfz78_8
    try clear hfz78_9
    try clear hfz85_0
    try clear hfz85_1
    try clear hfz85_2
    try clear hfz85_3
    try clear hfz85_4
    try clear hfz85_5
    try clear hfz85_6
    try clear hfz85_7
    try clear hfz85_8
    try clear hfz85_9
    obtain ⟨kq, x101_18, rfl, HA, HJ18, BK170, BK171, BK172, BK173, BK185, BK188, HB⟩ := hcut
    cases kq with
    | zero => exact absurd HA.out (by simp [millwrightlaw04_CheckBetween.j0])
    | succ kj18 =>
      have H := HA.out
      clear HA
      simp only [millwrightlaw04_CheckBetween.j0] at H
      by_cases c87 : x101_18 = true
      · subst c87
        have H1 : (some false) = some true := by rw [if_pos rfl] at H; exact H
        clear H
        have H := H1
        clear H1
        exact absurd H (by simp)
      · replace c87 := Bool.eq_false_iff.mpr c87
        subst c87
        have H1 : (if t174 = true then ((check_Task.f kj18 a2_0 a2_1).bind fun t192 => (if t192 = 0 then ((check_Task.f kj18 a3_0 a3_1).bind fun t193 => (if t193 = 0 then ((check_Task.f kj18 t186 t187).bind fun t194 => (some (t194 == 0))) else (some true))) else (some true))) else (some false)) = some true := by rw [if_neg (show ¬ (false = true) by decide)] at H; exact H
        clear H
        have H := H1
        clear H1
        by_cases c88 : t174 = true
        · subst c88
          have H1 : ((check_Task.f kj18 a2_0 a2_1).bind fun t192 => (if t192 = 0 then ((check_Task.f kj18 a3_0 a3_1).bind fun t193 => (if t193 = 0 then ((check_Task.f kj18 t186 t187).bind fun t194 => (some (t194 == 0))) else (some true))) else (some true))) = some true := by rw [if_pos rfl] at H; exact H
          clear H
          have H := H1
          clear H1
          replace H := Option.bind_eq_some_iff.mp H
          obtain ⟨t192, A890, H⟩ := H
          (try dsimp only at H)
          have A89 := Aside0.mk A890
          clear A890
          by_cases c90 : t192 = 0
          · rw [if_pos c90] at H
            have c90b0 : (t192 == 0) = true := beq_iff_eq.mpr c90
            have c90b1 : (t192 != 0) = false := bne_eq_false_iff_eq.mpr c90
            clear c90
            replace H := Option.bind_eq_some_iff.mp H
            obtain ⟨t193, A910, H⟩ := H
            (try dsimp only at H)
            have A91 := Aside0.mk A910
            clear A910
            by_cases c92 : t193 = 0
            · rw [if_pos c92] at H
              have c92b0 : (t193 == 0) = true := beq_iff_eq.mpr c92
              have c92b1 : (t193 != 0) = false := bne_eq_false_iff_eq.mpr c92
              clear c92
              replace H := Option.bind_eq_some_iff.mp H
              obtain ⟨t194, A930, H⟩ := H
              (try dsimp only at H)
              have A93 := Aside0.mk A930
              clear A930
              have HT_ := Option.some.inj H
              clear H
              have hnb94 := NB172_170.out
              have hnc94 := NB170_172.out
              have hnb95 := NB172_171.out
              have hnc95 := NB171_172.out
              have hnb96 := NB172_173.out
              have hnc96 := NB173_172.out
              have hnb97 := NB172_185.out
              have hnc97 := NB185_172.out
              have hnb98 := NB172_188.out
              have hnc98 := NB188_172.out
              have hcz99_0 : wc.cell? ⟨gb172, 0, none⟩ = some (.int .i64 a2_0) := (blk_cell BK172.out 0).trans rfl
              have hcz99_1 : wc.cell? ⟨gb172, 1, none⟩ = some (.int .i64 a2_1) := (blk_cell BK172.out 1).trans rfl
              have hfz99_0 := blk_frozen BK172.out 0
              have hfz99_1 := blk_frozen BK172.out 1
              go_wp2_with (first | (go_at_call 19; (with_reducible refine (check_Task.calls kj18 a2_0 a2_1 t192 _ A89.out).mono ?_); rintro e w100 ⟨rfl, hb⟩; have n0_ := Aside0.mk (blk_below (by exact BK170.out) hb); have n1_ := Aside0.mk (blk_below (by exact BK171.out) hb); have n2_ := Aside0.mk (blk_below (by exact BK172.out) hb); have n3_ := Aside0.mk (blk_below (by exact BK173.out) hb); have n4_ := Aside0.mk (blk_below (by exact BK185.out) hb); have n5_ := Aside0.mk (blk_below (by exact BK188.out) hb); have n6_ := Aside0.mk (below_step (by repeat (first | (with_reducible first | exact HB.out | apply below_alloc | apply pw_below_drewN | apply below_drew1 | refine below_set ?_ GE170.out | refine below_set ?_ GE171.out | refine below_set ?_ GE172.out | refine below_set ?_ GE173.out | refine below_set ?_ GE185.out | refine below_set ?_ GE188.out) | exact HB.out)) hb); clear BK170; clear BK171; clear BK172; clear BK173; clear BK185; clear BK188; clear HB; have BK170 := n0_; have BK171 := n1_; have BK172 := n2_; have BK173 := n3_; have BK185 := n4_; have BK188 := n5_; have HB := n6_; clear n0_ n1_ n2_ n3_ n4_ n5_ n6_; (try clear hb); (try clear hb2); (try clear hk); (try clear hi); have hnb101 := NB173_170.out; have hnc101 := NB170_173.out; have hnb102 := NB173_171.out; have hnc102 := NB171_173.out; have hnb103 := NB173_185.out; have hnc103 := NB185_173.out; have hnb104 := NB173_188.out; have hnc104 := NB188_173.out; have hcz105_0 : w100.cell? ⟨gb173, 0, none⟩ = some (.int .i64 a3_0) := (blk_cell BK173.out 0).trans rfl; have hcz105_1 : w100.cell? ⟨gb173, 1, none⟩ = some (.int .i64 a3_1) := (blk_cell BK173.out 1).trans rfl; have hfz105_0 := blk_frozen BK173.out 0; have hfz105_1 := blk_frozen BK173.out 1) | (go_at_call 19; (with_reducible refine (check_Task.calls kj18 a3_0 a3_1 t193 _ A91.out).mono ?_); rintro e w106 ⟨rfl, hb⟩; have n0_ := Aside0.mk (blk_below (by exact BK170.out) hb); have n1_ := Aside0.mk (blk_below (by exact BK171.out) hb); have n2_ := Aside0.mk (blk_below (by exact BK172.out) hb); have n3_ := Aside0.mk (blk_below (by exact BK173.out) hb); have n4_ := Aside0.mk (blk_below (by exact BK185.out) hb); have n5_ := Aside0.mk (blk_below (by exact BK188.out) hb); have n6_ := Aside0.mk (below_step (by repeat (first | (with_reducible first | exact HB.out | apply below_alloc | apply pw_below_drewN | apply below_drew1 | refine below_set ?_ GE170.out | refine below_set ?_ GE171.out | refine below_set ?_ GE172.out | refine below_set ?_ GE173.out | refine below_set ?_ GE185.out | refine below_set ?_ GE188.out) | exact HB.out)) hb); clear BK170; clear BK171; clear BK172; clear BK173; clear BK185; clear BK188; clear HB; have BK170 := n0_; have BK171 := n1_; have BK172 := n2_; have BK173 := n3_; have BK185 := n4_; have BK188 := n5_; have HB := n6_; clear n0_ n1_ n2_ n3_ n4_ n5_ n6_; (try clear hb); (try clear hb2); (try clear hk); (try clear hi); have hnb107 := NB188_170.out; have hnc107 := NB170_188.out; have hnb108 := NB188_171.out; have hnc108 := NB171_188.out; have hnb109 := NB188_185.out; have hnc109 := NB185_188.out; have hcz110_0 : w106.cell? ⟨gb188, 0, none⟩ = some (.int .i64 t186) := (blk_cell BK188.out 0).trans rfl; have hcz110_1 : w106.cell? ⟨gb188, 1, none⟩ = some (.int .i64 t187) := (blk_cell BK188.out 1).trans rfl; have hfz110_0 := blk_frozen BK188.out 0; have hfz110_1 := blk_frozen BK188.out 1) | (go_at_call 19; (with_reducible refine (check_Task.calls kj18 t186 t187 t194 _ A93.out).mono ?_); rintro e w111 ⟨rfl, hb⟩; have n0_ := Aside0.mk (blk_below (by exact BK170.out) hb); have n1_ := Aside0.mk (blk_below (by exact BK171.out) hb); have n2_ := Aside0.mk (blk_below (by exact BK172.out) hb); have n3_ := Aside0.mk (blk_below (by exact BK173.out) hb); have n4_ := Aside0.mk (blk_below (by exact BK185.out) hb); have n5_ := Aside0.mk (blk_below (by exact BK188.out) hb); have n6_ := Aside0.mk (below_step (by repeat (first | (with_reducible first | exact HB.out | apply below_alloc | apply pw_below_drewN | apply below_drew1 | refine below_set ?_ GE170.out | refine below_set ?_ GE171.out | refine below_set ?_ GE172.out | refine below_set ?_ GE173.out | refine below_set ?_ GE185.out | refine below_set ?_ GE188.out) | exact HB.out)) hb); clear BK170; clear BK171; clear BK172; clear BK173; clear BK185; clear BK188; clear HB; have BK170 := n0_; have BK171 := n1_; have BK172 := n2_; have BK173 := n3_; have BK185 := n4_; have BK188 := n5_; have HB := n6_; clear n0_ n1_ n2_ n3_ n4_ n5_ n6_; (try clear hb); (try clear hb2); (try clear hk); (try clear hi)))
              go_ret
              exact ⟨by first | rfl | (simp [errW_none, errW_some] <;> rfl) | (simp [*, errW_none, errW_some] <;> rfl), by repeat (first | (with_reducible first | exact HB.out | apply below_alloc | apply pw_below_drewN | apply below_drew1 | refine below_set ?_ GE170.out | refine below_set ?_ GE171.out | refine below_set ?_ GE172.out | refine below_set ?_ GE173.out | refine below_set ?_ GE185.out | refine below_set ?_ GE188.out) | exact HB.out)⟩
            · rw [if_neg c92] at H
              have c92b0 : (t193 == 0) = false := beq_eq_false_iff_ne.mpr c92
              have c92b1 : (t193 != 0) = true := bne_iff_ne.mpr c92
              clear H
              have hnb112 := NB172_170.out
              have hnc112 := NB170_172.out
              have hnb113 := NB172_171.out
              have hnc113 := NB171_172.out
              have hnb114 := NB172_173.out
              have hnc114 := NB173_172.out
              have hnb115 := NB172_185.out
              have hnc115 := NB185_172.out
              have hnb116 := NB172_188.out
              have hnc116 := NB188_172.out
              have hcz117_0 : wc.cell? ⟨gb172, 0, none⟩ = some (.int .i64 a2_0) := (blk_cell BK172.out 0).trans rfl
              have hcz117_1 : wc.cell? ⟨gb172, 1, none⟩ = some (.int .i64 a2_1) := (blk_cell BK172.out 1).trans rfl
              have hfz117_0 := blk_frozen BK172.out 0
              have hfz117_1 := blk_frozen BK172.out 1
              go_wp2_with (first | (go_at_call 19; (with_reducible refine (check_Task.calls kj18 a2_0 a2_1 t192 _ A89.out).mono ?_); rintro e w118 ⟨rfl, hb⟩; have n0_ := Aside0.mk (blk_below (by exact BK170.out) hb); have n1_ := Aside0.mk (blk_below (by exact BK171.out) hb); have n2_ := Aside0.mk (blk_below (by exact BK172.out) hb); have n3_ := Aside0.mk (blk_below (by exact BK173.out) hb); have n4_ := Aside0.mk (blk_below (by exact BK185.out) hb); have n5_ := Aside0.mk (blk_below (by exact BK188.out) hb); have n6_ := Aside0.mk (below_step (by repeat (first | (with_reducible first | exact HB.out | apply below_alloc | apply pw_below_drewN | apply below_drew1 | refine below_set ?_ GE170.out | refine below_set ?_ GE171.out | refine below_set ?_ GE172.out | refine below_set ?_ GE173.out | refine below_set ?_ GE185.out | refine below_set ?_ GE188.out) | exact HB.out)) hb); clear BK170; clear BK171; clear BK172; clear BK173; clear BK185; clear BK188; clear HB; have BK170 := n0_; have BK171 := n1_; have BK172 := n2_; have BK173 := n3_; have BK185 := n4_; have BK188 := n5_; have HB := n6_; clear n0_ n1_ n2_ n3_ n4_ n5_ n6_; (try clear hb); (try clear hb2); (try clear hk); (try clear hi); have hnb119 := NB173_170.out; have hnc119 := NB170_173.out; have hnb120 := NB173_171.out; have hnc120 := NB171_173.out; have hnb121 := NB173_185.out; have hnc121 := NB185_173.out; have hnb122 := NB173_188.out; have hnc122 := NB188_173.out; have hcz123_0 : w118.cell? ⟨gb173, 0, none⟩ = some (.int .i64 a3_0) := (blk_cell BK173.out 0).trans rfl; have hcz123_1 : w118.cell? ⟨gb173, 1, none⟩ = some (.int .i64 a3_1) := (blk_cell BK173.out 1).trans rfl; have hfz123_0 := blk_frozen BK173.out 0; have hfz123_1 := blk_frozen BK173.out 1) | (go_at_call 19; (with_reducible refine (check_Task.calls kj18 a3_0 a3_1 t193 _ A91.out).mono ?_); rintro e w124 ⟨rfl, hb⟩; have n0_ := Aside0.mk (blk_below (by exact BK170.out) hb); have n1_ := Aside0.mk (blk_below (by exact BK171.out) hb); have n2_ := Aside0.mk (blk_below (by exact BK172.out) hb); have n3_ := Aside0.mk (blk_below (by exact BK173.out) hb); have n4_ := Aside0.mk (blk_below (by exact BK185.out) hb); have n5_ := Aside0.mk (blk_below (by exact BK188.out) hb); have n6_ := Aside0.mk (below_step (by repeat (first | (with_reducible first | exact HB.out | apply below_alloc | apply pw_below_drewN | apply below_drew1 | refine below_set ?_ GE170.out | refine below_set ?_ GE171.out | refine below_set ?_ GE172.out | refine below_set ?_ GE173.out | refine below_set ?_ GE185.out | refine below_set ?_ GE188.out) | exact HB.out)) hb); clear BK170; clear BK171; clear BK172; clear BK173; clear BK185; clear BK188; clear HB; have BK170 := n0_; have BK171 := n1_; have BK172 := n2_; have BK173 := n3_; have BK185 := n4_; have BK188 := n5_; have HB := n6_; clear n0_ n1_ n2_ n3_ n4_ n5_ n6_; (try clear hb); (try clear hb2); (try clear hk); (try clear hi)))
              go_ret
              exact ⟨by first | rfl | (simp [errW_none, errW_some] <;> rfl) | (simp [*, errW_none, errW_some] <;> rfl), by repeat (first | (with_reducible first | exact HB.out | apply below_alloc | apply pw_below_drewN | apply below_drew1 | refine below_set ?_ GE170.out | refine below_set ?_ GE171.out | refine below_set ?_ GE172.out | refine below_set ?_ GE173.out | refine below_set ?_ GE185.out | refine below_set ?_ GE188.out) | exact HB.out)⟩
          · rw [if_neg c90] at H
            have c90b0 : (t192 == 0) = false := beq_eq_false_iff_ne.mpr c90
            have c90b1 : (t192 != 0) = true := bne_iff_ne.mpr c90
            clear H
            have hnb125 := NB172_170.out
            have hnc125 := NB170_172.out
            have hnb126 := NB172_171.out
            have hnc126 := NB171_172.out
            have hnb127 := NB172_173.out
            have hnc127 := NB173_172.out
            have hnb128 := NB172_185.out
            have hnc128 := NB185_172.out
            have hnb129 := NB172_188.out
            have hnc129 := NB188_172.out
            have hcz130_0 : wc.cell? ⟨gb172, 0, none⟩ = some (.int .i64 a2_0) := (blk_cell BK172.out 0).trans rfl
            have hcz130_1 : wc.cell? ⟨gb172, 1, none⟩ = some (.int .i64 a2_1) := (blk_cell BK172.out 1).trans rfl
            have hfz130_0 := blk_frozen BK172.out 0
            have hfz130_1 := blk_frozen BK172.out 1
            go_wp2_with (first | (go_at_call 19; (with_reducible refine (check_Task.calls kj18 a2_0 a2_1 t192 _ A89.out).mono ?_); rintro e w131 ⟨rfl, hb⟩; have n0_ := Aside0.mk (blk_below (by exact BK170.out) hb); have n1_ := Aside0.mk (blk_below (by exact BK171.out) hb); have n2_ := Aside0.mk (blk_below (by exact BK172.out) hb); have n3_ := Aside0.mk (blk_below (by exact BK173.out) hb); have n4_ := Aside0.mk (blk_below (by exact BK185.out) hb); have n5_ := Aside0.mk (blk_below (by exact BK188.out) hb); have n6_ := Aside0.mk (below_step (by repeat (first | (with_reducible first | exact HB.out | apply below_alloc | apply pw_below_drewN | apply below_drew1 | refine below_set ?_ GE170.out | refine below_set ?_ GE171.out | refine below_set ?_ GE172.out | refine below_set ?_ GE173.out | refine below_set ?_ GE185.out | refine below_set ?_ GE188.out) | exact HB.out)) hb); clear BK170; clear BK171; clear BK172; clear BK173; clear BK185; clear BK188; clear HB; have BK170 := n0_; have BK171 := n1_; have BK172 := n2_; have BK173 := n3_; have BK185 := n4_; have BK188 := n5_; have HB := n6_; clear n0_ n1_ n2_ n3_ n4_ n5_ n6_; (try clear hb); (try clear hb2); (try clear hk); (try clear hi)))
            go_ret
            exact ⟨by first | rfl | (simp [errW_none, errW_some] <;> rfl) | (simp [*, errW_none, errW_some] <;> rfl), by repeat (first | (with_reducible first | exact HB.out | apply below_alloc | apply pw_below_drewN | apply below_drew1 | refine below_set ?_ GE170.out | refine below_set ?_ GE171.out | refine below_set ?_ GE172.out | refine below_set ?_ GE173.out | refine below_set ?_ GE185.out | refine below_set ?_ GE188.out) | exact HB.out)⟩
        · replace c88 := Bool.eq_false_iff.mpr c88
          subst c88
          have H1 : (some false) = some true := by rw [if_neg (show ¬ (false = true) by decide)] at H; exact H
          clear H
          have H := H1
          clear H1
          exact absurd H (by simp)

end Go.Proofs.Ytkldfjlbgmppfaa.MCheckBetween
