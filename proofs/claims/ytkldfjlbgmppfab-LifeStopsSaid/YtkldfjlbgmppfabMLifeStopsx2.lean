-- Written by a program of this session out of Lean's own print of the program. Not trusted: Lean checks it.
import Derived.Test.YtkldfjlbgmppfabMLifeStopsx0
import Derived.Test.YtkldfjlbgmppfabMLifeStopsx1
namespace Go.Proofs.Ytkldfjlbgmppfab.MLifeStops
open Go.RowKit Go.Proofs.YtkldfjlbgmppfabW.PrintWords Go.Proofs.YtkldfjlbgmppfabW.PrintLast Go.Proofs.YtkldfjlbgmppfabW.PrintMore
attribute [local go_sem] max2_int min2_int max_two min_two max_three min_three max_four min_four   -- for this text's walks alone
set_option linter.unusedVariables false
set_option linter.unusedSimpArgs false

/-! ### life_Life_Miss: function 45 -/
def life_Life_Miss.j0 : Nat → Int → Int → Int → Int → Int → Int → Int → Option (Int × Int × Int × Int × Int × Int × Int)
  | 0, _, _, _, _, _, _, _ => none
  | k + 1, x3, x1000, x1001, x1002, x1003, x1004, x1005 => (life_of.f k (([2] : List Int))).bind fun t139 => ((life_Life_step.f x1000 x1001 x1002 x1003 x1004 x1005 t139 x3).bind fun bt140 => (if bt140.1 = 0 then (some (bt140.1, bt140.2.1, bt140.2.2.1, wrap64 (bt140.2.2.2.1 + 1), bt140.2.2.2.2.1, bt140.2.2.2.2.2.1, bt140.2.2.2.2.2.2)) else (some (bt140.1, bt140.2.1, bt140.2.2.1, bt140.2.2.2.1, bt140.2.2.2.2.1, bt140.2.2.2.2.2.1, bt140.2.2.2.2.2.2))))
def life_Life_Miss.f (k : Nat) (s0_0 : Int) (s0_1 : Int) (s0_2 : Int) (s0_3 : Int) (s0_4 : Int) (s0_5 : Int) : Option (Int × Int × Int × Int × Int × Int × Int) := if (wrap64 (s0_2 + 1)) ≥ s0_4 then (life_Life_Miss.j0 k 6 s0_0 s0_1 s0_2 s0_3 s0_4 s0_5) else (life_Life_Miss.j0 k 4 s0_0 s0_1 s0_2 s0_3 s0_4 s0_5)
theorem life_Life_Miss.mono_l : ∀ k, (∀ y0 y1 y2 y3 y4 y5 y6, LeO (life_Life_Miss.j0 k y0 y1 y2 y3 y4 y5 y6) (life_Life_Miss.j0 (k + 1) y0 y1 y2 y3 y4 y5 y6))
  | 0 => fun _ _ _ _ _ _ _ r h => by simp [life_Life_Miss.j0] at h
  | k + 1 => by
    have ih0 := life_Life_Miss.mono_l k
    · intro y0 y1 y2 y3 y4 y5 y6
      unfold life_Life_Miss.j0
      repeat' first
      | (with_reducible exact ih0 _ _ _ _ _ _ _)
      | (with_reducible exact life_of.mono _ _)
      | (with_reducible exact LeO.refl _)
      | (with_reducible exact LeO.none _)
      | (with_reducible refine LeO.ite ?_ ?_)
      | (with_reducible refine LeO.bind ?_ (fun _ => ?_))
      | exact ih0 _ _ _ _ _ _ _
      | exact life_of.mono _ _
      | exact LeO.none _
      | refine LeO.ite ?_ ?_
      | refine LeO.bind ?_ (fun _ => ?_)
theorem life_Life_Miss.mono : ∀ a0 a1 a2 a3 a4 a5 k, LeO (life_Life_Miss.f k a0 a1 a2 a3 a4 a5) (life_Life_Miss.f (k + 1) a0 a1 a2 a3 a4 a5) := by
  intro a0 a1 a2 a3 a4 a5 k
  have ih0 := life_Life_Miss.mono_l k
  unfold life_Life_Miss.f
  repeat' first
      | (with_reducible exact ih0 _ _ _ _ _ _ _)
      | (with_reducible exact life_of.mono _ _)
      | (with_reducible exact LeO.refl _)
      | (with_reducible exact LeO.none _)
      | (with_reducible refine LeO.ite ?_ ?_)
      | (with_reducible refine LeO.bind ?_ (fun _ => ?_))
      | exact ih0 _ _ _ _ _ _ _
      | exact life_of.mono _ _
      | exact LeO.none _
      | refine LeO.ite ?_ ?_
      | refine LeO.bind ?_ (fun _ => ?_)
set_option maxHeartbeats 8000000 in
set_option maxRecDepth 100000 in
theorem life_Life_Miss.calls (k : Nat) (g : Nat) (s0_0 : Int) (s0_1 : Int) (s0_2 : Int) (s0_3 : Int) (s0_4 : Int) (s0_5 : Int) (r1 : Int) (r2 : Int) (r3 : Int) (r4 : Int) (r5 : Int) (r6 : Int) (r7 : Int) (w0 w : World) (hI : IsS62 w0 w g s0_0 s0_1 s0_2 s0_3 s0_4 s0_5) (hB : Below w0.heap.size w0 w) (h : life_Life_Miss.f k s0_0 s0_1 s0_2 s0_3 s0_4 s0_5 = some (r1, r2, r3, r4, r5, r6, r7)) :
    Calls Try.prog 45 #[.pointer (some ⟨g, 0, none⟩)] w fun e w' => e = .returned (.int .i64 r1) ∧ IsS62 w0 w' g r2 r3 r4 r5 r6 r7 ∧ Below w0.heap.size w0 w' ∧ KeepBut w w' g none := by
  have HI0 := Aside0.mk hI
  have HK := Aside0.mk (KeepBut.refl w g none)
  have HL := Aside0.mk hB.size
  clear hI
  have HW0 := Aside0.mk hB.size
  have HB := Aside0.mk hB
  clear hB
  have H : (if (wrap64 (s0_2 + 1)) ≥ s0_4 then (life_Life_Miss.j0 k 6 s0_0 s0_1 s0_2 s0_3 s0_4 s0_5) else (life_Life_Miss.j0 k 4 s0_0 s0_1 s0_2 s0_3 s0_4 s0_5)) = some (r1, r2, r3, r4, r5, r6, r7) := h
  clear h
  have HC2 := Aside0.mk H
  clear H
  obtain ⟨HGz3, hgz3⟩ := HI0.out
  have hcz3_0 := cellS62_0 HGz3
  have hcz3_1 := cellS62_1 HGz3
  have hcz3_2 := cellS62_2 HGz3
  have hcz3_3 := cellS62_3 HGz3
  have hcz3_4 := cellS62_4 HGz3
  have hcz3_5 := cellS62_5 HGz3
  have hfz3_0 := blk_frozen HGz3 0
  have hfz3_1 := blk_frozen HGz3 1
  have hfz3_2 := blk_frozen HGz3 2
  have hfz3_3 := blk_frozen HGz3 3
  have hfz3_4 := blk_frozen HGz3 4
  have hfz3_5 := blk_frozen HGz3 5
  clear HGz3 hgz3
  go_enter Try.func45, Try.ntmps45
  go_upto_if 14 with (fail)
  repeat (go_quiet (fail); go_upto_if 14 with (fail))
  go_cut [3] (fun v3 wc => ∃ (kq : Nat) (x3_1 : Int), v3 = .int .i64 x3_1 ∧ Aside0 (life_Life_Miss.j0 kq x3_1 s0_0 s0_1 s0_2 s0_3 s0_4 s0_5 = some (r1, r2, r3, r4, r5, r6, r7)) ∧ Aside0 (kq ≤ k) ∧ Aside0 (IsS62 w0 wc g s0_0 s0_1 s0_2 s0_3 s0_4 s0_5) ∧ Aside0 (KeepBut w wc g none) ∧ Aside0 (Below w0.heap.size w0 wc))
  case first =>
    have H := HC2.out
    clear HC2
    by_cases c4 : (wrap64 (s0_2 + 1)) ≥ s0_4
    · rw [if_pos c4] at H
      have c4b0 : decide (s0_4 ≤ (wrap64 (s0_2 + 1))) = true := decide_eq_true c4
      clear c4
      (first | rw [c4b0] | (simp only [i64_w, i32_w]; rw [c4b0]) | skip)
      have H' := Aside0.mk H
      clear H
      go_wp2
      repeat (go_quiet (fail); try go_wp2)
      go_meet
      case rel => exact ⟨_, (6), (by first | rfl | (simp; done) | (simp [*]; done)), H', ⟨by first | omega | exact Nat.le_refl _⟩, ⟨by repeat (first | (with_reducible first | exact HI0.out | apply IsS62.alloc | apply IsS62.drewN | apply IsS62.drew | apply IsS62.set_0 | apply IsS62.set_1 | apply IsS62.set_2 | apply IsS62.set_3 | apply IsS62.set_4 | apply IsS62.set_5) | exact HI0.out)⟩, ⟨by repeat (first | (with_reducible first | exact HK.out | apply KeepBut.set_ | apply keep_drewN | apply keep_drew | apply keep_alloc) | exact HK.out)⟩, ⟨by repeat (first | (with_reducible first | exact HB.out | apply below_alloc | apply pw_below_drewN | apply below_drew1 | refine below_set ?_ (IsS62.ge HI0.out)) | exact HB.out)⟩⟩
    · rw [if_neg c4] at H
      have c4b0 : decide (s0_4 ≤ (wrap64 (s0_2 + 1))) = false := decide_eq_false c4
      clear c4
      (first | rw [c4b0] | (simp only [i64_w, i32_w]; rw [c4b0]) | skip)
      have H' := Aside0.mk H
      clear H
      go_wp2
      repeat (go_quiet (fail); try go_wp2)
      go_meet
      case rel => exact ⟨_, (4), (by first | rfl | (simp; done) | (simp [*]; done)), H', ⟨by first | omega | exact Nat.le_refl _⟩, ⟨by repeat (first | (with_reducible first | exact HI0.out | apply IsS62.alloc | apply IsS62.drewN | apply IsS62.drew | apply IsS62.set_0 | apply IsS62.set_1 | apply IsS62.set_2 | apply IsS62.set_3 | apply IsS62.set_4 | apply IsS62.set_5) | exact HI0.out)⟩, ⟨by repeat (first | (with_reducible first | exact HK.out | apply KeepBut.set_ | apply keep_drewN | apply keep_drew | apply keep_alloc) | exact HK.out)⟩, ⟨by repeat (first | (with_reducible first | exact HB.out | apply below_alloc | apply pw_below_drewN | apply below_drew1 | refine below_set ?_ (IsS62.ge HI0.out)) | exact HB.out)⟩⟩
  case rest =>
    clear HC2
    try clear p2
    try clear c4
    try clear c4b0
    try clear hcz3_0
    try clear hcz3_1
    try clear hcz3_2
    try clear hcz3_3
    try clear hcz3_4
    try clear hcz3_5
    try clear hfz3_0
    try clear hfz3_1
    try clear hfz3_2
    try clear hfz3_3
    try clear hfz3_4
    try clear hfz3_5
    obtain ⟨kq, x3_1, rfl, HA, HJ1, HI0, HK, HB⟩ := hcut
    cases kq with
    | zero => exact absurd HA.out (by simp [life_Life_Miss.j0])
    | succ kj1 =>
      have H := HA.out
      clear HA
      simp only [life_Life_Miss.j0] at H
      obtain ⟨y136, hy136⟩ : ∃ y_ : List Int, y_ = (([2] : List Int)) := ⟨_, rfl⟩
      replace H : ((life_of.f kj1 y136).bind fun t139 => ((life_Life_step.f s0_0 s0_1 s0_2 s0_3 s0_4 s0_5 t139 x3_1).bind fun bt140 => (if bt140.1 = 0 then (some (bt140.1, bt140.2.1, bt140.2.2.1, wrap64 (bt140.2.2.2.1 + 1), bt140.2.2.2.2.1, bt140.2.2.2.2.2.1, bt140.2.2.2.2.2.2)) else (some (bt140.1, bt140.2.1, bt140.2.2.1, bt140.2.2.2.1, bt140.2.2.2.2.1, bt140.2.2.2.2.2.1, bt140.2.2.2.2.2.2))))) = some (r1, r2, r3, r4, r5, r6, r7) := by first | (rw [hy136]; with_reducible exact H) | (have H2_ := (Option.bind_some _ _).symm.trans H; rw [hy136]; with_reducible exact H2_) | (have H2_ := (Option.bind_some _ _).symm.trans H; with_reducible exact H2_) | with_reducible exact H | (rw [hy136]; exact H) | exact H
      have Ny136 := Aside0.mk hy136
      clear hy136
      replace H := Option.bind_eq_some_iff.mp H
      obtain ⟨t139, A50, H⟩ := H
      replace H : ((life_Life_step.f s0_0 s0_1 s0_2 s0_3 s0_4 s0_5 t139 x3_1).bind fun bt140 => (if bt140.1 = 0 then (some (bt140.1, bt140.2.1, bt140.2.2.1, wrap64 (bt140.2.2.2.1 + 1), bt140.2.2.2.2.1, bt140.2.2.2.2.2.1, bt140.2.2.2.2.2.2)) else (some (bt140.1, bt140.2.1, bt140.2.2.1, bt140.2.2.2.1, bt140.2.2.2.2.1, bt140.2.2.2.2.2.1, bt140.2.2.2.2.2.2)))) = some (r1, r2, r3, r4, r5, r6, r7) := H
      have A5 := Aside0.mk A50
      clear A50
      replace H := Option.bind_eq_some_iff.mp H
      obtain ⟨⟨t140, t141, t142, t143, t144, t145, t146⟩, A60, H⟩ := H
      replace H : (if t140 = 0 then (some (t140, t141, t142, wrap64 (t143 + 1), t144, t145, t146)) else (some (t140, t141, t142, t143, t144, t145, t146))) = some (r1, r2, r3, r4, r5, r6, r7) := H
      have A6 := Aside0.mk A60
      clear A60
      by_cases c7 : t140 = 0
      · rw [if_pos c7] at H
        have c7b0 : (t140 == 0) = true := beq_iff_eq.mpr c7
        have c7b1 : (t140 != 0) = false := bne_eq_false_iff_eq.mpr c7
        clear c7
        simp only [Option.some.injEq, Prod.mk.injEq] at H
        obtain ⟨rfl, rfl, rfl, rfl, rfl, rfl, rfl⟩ := H
        go_wp2_with (first | ((with_reducible refine gate_dst (N := 16) rfl ?_); refine Kd.R_lit (Kd.int .i64) _ 3 ?hg (N := 16) ?hd (xs := ([2] : List Int)) (inner := [.int .i64 2]) (ok := fun _ => True) (okp := fun _ => True) ?hr ?hp (fun _ hk => hk) trivial (Below.refl _ _) (Nat.le_refl _) (by simp) ?_; (case hd => rfl); (case hg => rfl); (case hr => first | (go_simp; done) | (go_simp; rfl)); (case hp => exact (Reps.one (show Kd.M (Kd.int .i64) _ _ _ 2 [.int .i64 2] from rfl) (Reps.none _ _))); intro v137 w8 ho9 hb hg_ hnew_; clear hg_ hnew_; (first | rw [← Ny136.out] at ho9 | (simp only [Int.reduceToNat] at ho9; rw [← Ny136.out] at ho9)); have n0_ := Aside0.mk (Kd.R_lower ho9 (keep_size (w := w) (g := g) (row := none) (by repeat (first | (with_reducible first | exact HK.out | apply KeepBut.set_ | apply keep_drewN | apply keep_drew | apply keep_alloc) | exact HK.out)))); have n1_ := Aside0.mk (IsS62.below (by repeat (first | (with_reducible first | exact HI0.out | apply IsS62.alloc | apply IsS62.drewN | apply IsS62.drew | apply IsS62.set_0 | apply IsS62.set_1 | apply IsS62.set_2 | apply IsS62.set_3 | apply IsS62.set_4 | apply IsS62.set_5) | exact HI0.out)) hb); have n2_ := Aside0.mk (KeepBut.trans (by repeat (first | (with_reducible first | exact HK.out | apply KeepBut.set_ | apply keep_drewN | apply keep_drew | apply keep_alloc) | exact HK.out)) (KeepBut.of_below hb g none) (.inl rfl)); have n3_ := Aside0.mk (below_step (by repeat (first | (with_reducible first | exact HB.out | apply below_alloc | apply pw_below_drewN | apply below_drew1 | refine below_set ?_ (IsS62.ge HI0.out)) | exact HB.out)) hb); clear HI0; clear HK; clear HB; have HO138 := n0_; have HI0 := n1_; have HK := n2_; have HB := n3_; clear n0_ n1_ n2_ n3_; clear hb ho9; obtain ⟨Ao10, co10, eo10⟩ := Kd.R_slice HO138.out; subst eo10) | (go_at_call 48; (with_reducible refine (life_of.calls kj1 _ _ y136 t139 _ ?side1 ?side2 A5.out).mono ?_); (case side1 => repeat (first | exact (Kd.R_reads' HO138.out).2.2 | (with_reducible refine Kd.C_alloc ?_ _) | (with_reducible refine Kd.C_drewN ?_ _) | (with_reducible refine Kd.C_drew ?_))); (case side2 => exact (Kd.R_reads' HO138.out).2.1); rintro e w' ⟨rfl, ⟨nd, rfl⟩⟩; (try first | exact ⟨rfl, _, World.drewN_drewN _ _ _⟩ | exact ⟨rfl, _, Eq.trans (World.drewN_drewN _ _ _) (congrArg (World.drewN _) (Nat.add_assoc _ _ _))⟩)) | (go_at_call 47; (with_reducible refine (life_Life_step.calls g s0_0 s0_1 s0_2 s0_3 s0_4 s0_5 t139 x3_1 t140 t141 t142 t143 t144 t145 t146 w0 _ ?side1 ?side2 A6.out).mono ?_); (case side1 => repeat (first | (with_reducible first | exact HI0.out | apply IsS62.alloc | apply IsS62.drewN | apply IsS62.drew | apply IsS62.set_0 | apply IsS62.set_1 | apply IsS62.set_2 | apply IsS62.set_3 | apply IsS62.set_4 | apply IsS62.set_5) | exact HI0.out)); (case side2 => repeat (first | (with_reducible first | exact HB.out | apply below_alloc | apply pw_below_drewN | apply below_drew1 | refine below_set ?_ (IsS62.ge HI0.out)) | exact HB.out)); rintro e w11 ⟨rfl, hi, hb, hk⟩; have n0_ := Aside0.mk (Kd.R_mono (Kd.R_keep (IsS62.apart (show IsS62 w0 _ g s0_0 s0_1 s0_2 s0_3 s0_4 s0_5 from by repeat (first | (with_reducible first | exact HI0.out | apply IsS62.alloc | apply IsS62.drewN | apply IsS62.drew | apply IsS62.set_0 | apply IsS62.set_1 | apply IsS62.set_2 | apply IsS62.set_3 | apply IsS62.set_4 | apply IsS62.set_5) | exact HI0.out)) (by (with_reducible repeat (first | apply Kd.R_alloc | apply Kd.R_drewN | apply Kd.R_drew)); exact HO138.out) (by decide)) hk (fun _ h => h.2)) (fun _ h => h.1)); have n1_ := Aside0.mk (KeepBut.trans (by repeat (first | (with_reducible first | exact HK.out | apply KeepBut.set_ | apply keep_drewN | apply keep_drew | apply keep_alloc) | exact HK.out)) hk (.inl rfl)); have n2_ := Aside0.mk (hb); have n3_ := Aside0.mk (hi); clear HO138; clear HK; clear HB; clear HI0; have HO138 := n0_; have HK := n1_; have HB := n2_; have HI0 := n3_; clear n0_ n1_ n2_ n3_; (try clear hb); (try clear hb2); (try clear hk); (try clear hi); obtain ⟨HGz12, hgz12⟩ := HI0.out; have hcz12_0 := cellS62_0 HGz12; have hcz12_1 := cellS62_1 HGz12; have hcz12_2 := cellS62_2 HGz12; have hcz12_3 := cellS62_3 HGz12; have hcz12_4 := cellS62_4 HGz12; have hcz12_5 := cellS62_5 HGz12; have hfz12_0 := blk_frozen HGz12 0; have hfz12_1 := blk_frozen HGz12 1; have hfz12_2 := blk_frozen HGz12 2; have hfz12_3 := blk_frozen HGz12 3; have hfz12_4 := blk_frozen HGz12 4; have hfz12_5 := blk_frozen HGz12 5; clear HGz12 hgz12))
        repeat (go_quiet (first | ((with_reducible refine gate_dst (N := 16) rfl ?_); refine Kd.R_lit (Kd.int .i64) _ 3 ?hg (N := 16) ?hd (xs := ([2] : List Int)) (inner := [.int .i64 2]) (ok := fun _ => True) (okp := fun _ => True) ?hr ?hp (fun _ hk => hk) trivial (Below.refl _ _) (Nat.le_refl _) (by simp) ?_; (case hd => rfl); (case hg => rfl); (case hr => first | (go_simp; done) | (go_simp; rfl)); (case hp => exact (Reps.one (show Kd.M (Kd.int .i64) _ _ _ 2 [.int .i64 2] from rfl) (Reps.none _ _))); intro v137 w8 ho9 hb hg_ hnew_; clear hg_ hnew_; (first | rw [← Ny136.out] at ho9 | (simp only [Int.reduceToNat] at ho9; rw [← Ny136.out] at ho9)); have n0_ := Aside0.mk (Kd.R_lower ho9 (keep_size (w := w) (g := g) (row := none) (by repeat (first | (with_reducible first | exact HK.out | apply KeepBut.set_ | apply keep_drewN | apply keep_drew | apply keep_alloc) | exact HK.out)))); have n1_ := Aside0.mk (IsS62.below (by repeat (first | (with_reducible first | exact HI0.out | apply IsS62.alloc | apply IsS62.drewN | apply IsS62.drew | apply IsS62.set_0 | apply IsS62.set_1 | apply IsS62.set_2 | apply IsS62.set_3 | apply IsS62.set_4 | apply IsS62.set_5) | exact HI0.out)) hb); have n2_ := Aside0.mk (KeepBut.trans (by repeat (first | (with_reducible first | exact HK.out | apply KeepBut.set_ | apply keep_drewN | apply keep_drew | apply keep_alloc) | exact HK.out)) (KeepBut.of_below hb g none) (.inl rfl)); have n3_ := Aside0.mk (below_step (by repeat (first | (with_reducible first | exact HB.out | apply below_alloc | apply pw_below_drewN | apply below_drew1 | refine below_set ?_ (IsS62.ge HI0.out)) | exact HB.out)) hb); clear HI0; clear HK; clear HB; have HO138 := n0_; have HI0 := n1_; have HK := n2_; have HB := n3_; clear n0_ n1_ n2_ n3_; clear hb ho9; obtain ⟨Ao10, co10, eo10⟩ := Kd.R_slice HO138.out; subst eo10) | (go_at_call 48; (with_reducible refine (life_of.calls kj1 _ _ y136 t139 _ ?side1 ?side2 A5.out).mono ?_); (case side1 => repeat (first | exact (Kd.R_reads' HO138.out).2.2 | (with_reducible refine Kd.C_alloc ?_ _) | (with_reducible refine Kd.C_drewN ?_ _) | (with_reducible refine Kd.C_drew ?_))); (case side2 => exact (Kd.R_reads' HO138.out).2.1); rintro e w' ⟨rfl, ⟨nd, rfl⟩⟩; (try first | exact ⟨rfl, _, World.drewN_drewN _ _ _⟩ | exact ⟨rfl, _, Eq.trans (World.drewN_drewN _ _ _) (congrArg (World.drewN _) (Nat.add_assoc _ _ _))⟩)) | (go_at_call 47; (with_reducible refine (life_Life_step.calls g s0_0 s0_1 s0_2 s0_3 s0_4 s0_5 t139 x3_1 t140 t141 t142 t143 t144 t145 t146 w0 _ ?side1 ?side2 A6.out).mono ?_); (case side1 => repeat (first | (with_reducible first | exact HI0.out | apply IsS62.alloc | apply IsS62.drewN | apply IsS62.drew | apply IsS62.set_0 | apply IsS62.set_1 | apply IsS62.set_2 | apply IsS62.set_3 | apply IsS62.set_4 | apply IsS62.set_5) | exact HI0.out)); (case side2 => repeat (first | (with_reducible first | exact HB.out | apply below_alloc | apply pw_below_drewN | apply below_drew1 | refine below_set ?_ (IsS62.ge HI0.out)) | exact HB.out)); rintro e w11 ⟨rfl, hi, hb, hk⟩; have n0_ := Aside0.mk (Kd.R_mono (Kd.R_keep (IsS62.apart (show IsS62 w0 _ g s0_0 s0_1 s0_2 s0_3 s0_4 s0_5 from by repeat (first | (with_reducible first | exact HI0.out | apply IsS62.alloc | apply IsS62.drewN | apply IsS62.drew | apply IsS62.set_0 | apply IsS62.set_1 | apply IsS62.set_2 | apply IsS62.set_3 | apply IsS62.set_4 | apply IsS62.set_5) | exact HI0.out)) (by (with_reducible repeat (first | apply Kd.R_alloc | apply Kd.R_drewN | apply Kd.R_drew)); exact HO138.out) (by decide)) hk (fun _ h => h.2)) (fun _ h => h.1)); have n1_ := Aside0.mk (KeepBut.trans (by repeat (first | (with_reducible first | exact HK.out | apply KeepBut.set_ | apply keep_drewN | apply keep_drew | apply keep_alloc) | exact HK.out)) hk (.inl rfl)); have n2_ := Aside0.mk (hb); have n3_ := Aside0.mk (hi); clear HO138; clear HK; clear HB; clear HI0; have HO138 := n0_; have HK := n1_; have HB := n2_; have HI0 := n3_; clear n0_ n1_ n2_ n3_; (try clear hb); (try clear hb2); (try clear hk); (try clear hi); obtain ⟨HGz12, hgz12⟩ := HI0.out; have hcz12_0 := cellS62_0 HGz12; have hcz12_1 := cellS62_1 HGz12; have hcz12_2 := cellS62_2 HGz12; have hcz12_3 := cellS62_3 HGz12; have hcz12_4 := cellS62_4 HGz12; have hcz12_5 := cellS62_5 HGz12; have hfz12_0 := blk_frozen HGz12 0; have hfz12_1 := blk_frozen HGz12 1; have hfz12_2 := blk_frozen HGz12 2; have hfz12_3 := blk_frozen HGz12 3; have hfz12_4 := blk_frozen HGz12 4; have hfz12_5 := blk_frozen HGz12 5; clear HGz12 hgz12)); try go_wp2_with (first | ((with_reducible refine gate_dst (N := 16) rfl ?_); refine Kd.R_lit (Kd.int .i64) _ 3 ?hg (N := 16) ?hd (xs := ([2] : List Int)) (inner := [.int .i64 2]) (ok := fun _ => True) (okp := fun _ => True) ?hr ?hp (fun _ hk => hk) trivial (Below.refl _ _) (Nat.le_refl _) (by simp) ?_; (case hd => rfl); (case hg => rfl); (case hr => first | (go_simp; done) | (go_simp; rfl)); (case hp => exact (Reps.one (show Kd.M (Kd.int .i64) _ _ _ 2 [.int .i64 2] from rfl) (Reps.none _ _))); intro v137 w8 ho9 hb hg_ hnew_; clear hg_ hnew_; (first | rw [← Ny136.out] at ho9 | (simp only [Int.reduceToNat] at ho9; rw [← Ny136.out] at ho9)); have n0_ := Aside0.mk (Kd.R_lower ho9 (keep_size (w := w) (g := g) (row := none) (by repeat (first | (with_reducible first | exact HK.out | apply KeepBut.set_ | apply keep_drewN | apply keep_drew | apply keep_alloc) | exact HK.out)))); have n1_ := Aside0.mk (IsS62.below (by repeat (first | (with_reducible first | exact HI0.out | apply IsS62.alloc | apply IsS62.drewN | apply IsS62.drew | apply IsS62.set_0 | apply IsS62.set_1 | apply IsS62.set_2 | apply IsS62.set_3 | apply IsS62.set_4 | apply IsS62.set_5) | exact HI0.out)) hb); have n2_ := Aside0.mk (KeepBut.trans (by repeat (first | (with_reducible first | exact HK.out | apply KeepBut.set_ | apply keep_drewN | apply keep_drew | apply keep_alloc) | exact HK.out)) (KeepBut.of_below hb g none) (.inl rfl)); have n3_ := Aside0.mk (below_step (by repeat (first | (with_reducible first | exact HB.out | apply below_alloc | apply pw_below_drewN | apply below_drew1 | refine below_set ?_ (IsS62.ge HI0.out)) | exact HB.out)) hb); clear HI0; clear HK; clear HB; have HO138 := n0_; have HI0 := n1_; have HK := n2_; have HB := n3_; clear n0_ n1_ n2_ n3_; clear hb ho9; obtain ⟨Ao10, co10, eo10⟩ := Kd.R_slice HO138.out; subst eo10) | (go_at_call 48; (with_reducible refine (life_of.calls kj1 _ _ y136 t139 _ ?side1 ?side2 A5.out).mono ?_); (case side1 => repeat (first | exact (Kd.R_reads' HO138.out).2.2 | (with_reducible refine Kd.C_alloc ?_ _) | (with_reducible refine Kd.C_drewN ?_ _) | (with_reducible refine Kd.C_drew ?_))); (case side2 => exact (Kd.R_reads' HO138.out).2.1); rintro e w' ⟨rfl, ⟨nd, rfl⟩⟩; (try first | exact ⟨rfl, _, World.drewN_drewN _ _ _⟩ | exact ⟨rfl, _, Eq.trans (World.drewN_drewN _ _ _) (congrArg (World.drewN _) (Nat.add_assoc _ _ _))⟩)) | (go_at_call 47; (with_reducible refine (life_Life_step.calls g s0_0 s0_1 s0_2 s0_3 s0_4 s0_5 t139 x3_1 t140 t141 t142 t143 t144 t145 t146 w0 _ ?side1 ?side2 A6.out).mono ?_); (case side1 => repeat (first | (with_reducible first | exact HI0.out | apply IsS62.alloc | apply IsS62.drewN | apply IsS62.drew | apply IsS62.set_0 | apply IsS62.set_1 | apply IsS62.set_2 | apply IsS62.set_3 | apply IsS62.set_4 | apply IsS62.set_5) | exact HI0.out)); (case side2 => repeat (first | (with_reducible first | exact HB.out | apply below_alloc | apply pw_below_drewN | apply below_drew1 | refine below_set ?_ (IsS62.ge HI0.out)) | exact HB.out)); rintro e w11 ⟨rfl, hi, hb, hk⟩; have n0_ := Aside0.mk (Kd.R_mono (Kd.R_keep (IsS62.apart (show IsS62 w0 _ g s0_0 s0_1 s0_2 s0_3 s0_4 s0_5 from by repeat (first | (with_reducible first | exact HI0.out | apply IsS62.alloc | apply IsS62.drewN | apply IsS62.drew | apply IsS62.set_0 | apply IsS62.set_1 | apply IsS62.set_2 | apply IsS62.set_3 | apply IsS62.set_4 | apply IsS62.set_5) | exact HI0.out)) (by (with_reducible repeat (first | apply Kd.R_alloc | apply Kd.R_drewN | apply Kd.R_drew)); exact HO138.out) (by decide)) hk (fun _ h => h.2)) (fun _ h => h.1)); have n1_ := Aside0.mk (KeepBut.trans (by repeat (first | (with_reducible first | exact HK.out | apply KeepBut.set_ | apply keep_drewN | apply keep_drew | apply keep_alloc) | exact HK.out)) hk (.inl rfl)); have n2_ := Aside0.mk (hb); have n3_ := Aside0.mk (hi); clear HO138; clear HK; clear HB; clear HI0; have HO138 := n0_; have HK := n1_; have HB := n2_; have HI0 := n3_; clear n0_ n1_ n2_ n3_; (try clear hb); (try clear hb2); (try clear hk); (try clear hi); obtain ⟨HGz12, hgz12⟩ := HI0.out; have hcz12_0 := cellS62_0 HGz12; have hcz12_1 := cellS62_1 HGz12; have hcz12_2 := cellS62_2 HGz12; have hcz12_3 := cellS62_3 HGz12; have hcz12_4 := cellS62_4 HGz12; have hcz12_5 := cellS62_5 HGz12; have hfz12_0 := blk_frozen HGz12 0; have hfz12_1 := blk_frozen HGz12 1; have hfz12_2 := blk_frozen HGz12 2; have hfz12_3 := blk_frozen HGz12 3; have hfz12_4 := blk_frozen HGz12 4; have hfz12_5 := blk_frozen HGz12 5; clear HGz12 hgz12)))
        go_ret
        exact ⟨by first | rfl | (simp [errW_none, errW_some] <;> rfl) | (simp [*, errW_none, errW_some] <;> rfl), by repeat (first | (with_reducible first | exact HI0.out | apply IsS62.alloc | apply IsS62.drewN | apply IsS62.drew | apply IsS62.set_0 | apply IsS62.set_1 | apply IsS62.set_2 | apply IsS62.set_3 | apply IsS62.set_4 | apply IsS62.set_5) | exact HI0.out), by repeat (first | (with_reducible first | exact HB.out | apply below_alloc | apply pw_below_drewN | apply below_drew1 | refine below_set ?_ (IsS62.ge HI0.out)) | exact HB.out), by repeat (first | (with_reducible first | exact HK.out | apply KeepBut.set_ | apply keep_drewN | apply keep_drew | apply keep_alloc) | exact HK.out)⟩
      · rw [if_neg c7] at H
        have c7b0 : (t140 == 0) = false := beq_eq_false_iff_ne.mpr c7
        have c7b1 : (t140 != 0) = true := bne_iff_ne.mpr c7
        simp only [Option.some.injEq, Prod.mk.injEq] at H
        obtain ⟨rfl, rfl, rfl, rfl, rfl, rfl, rfl⟩ := H
        go_wp2_with (first | ((with_reducible refine gate_dst (N := 16) rfl ?_); refine Kd.R_lit (Kd.int .i64) _ 3 ?hg (N := 16) ?hd (xs := ([2] : List Int)) (inner := [.int .i64 2]) (ok := fun _ => True) (okp := fun _ => True) ?hr ?hp (fun _ hk => hk) trivial (Below.refl _ _) (Nat.le_refl _) (by simp) ?_; (case hd => rfl); (case hg => rfl); (case hr => first | (go_simp; done) | (go_simp; rfl)); (case hp => exact (Reps.one (show Kd.M (Kd.int .i64) _ _ _ 2 [.int .i64 2] from rfl) (Reps.none _ _))); intro v137 w13 ho14 hb hg_ hnew_; clear hg_ hnew_; (first | rw [← Ny136.out] at ho14 | (simp only [Int.reduceToNat] at ho14; rw [← Ny136.out] at ho14)); have n0_ := Aside0.mk (Kd.R_lower ho14 (keep_size (w := w) (g := g) (row := none) (by repeat (first | (with_reducible first | exact HK.out | apply KeepBut.set_ | apply keep_drewN | apply keep_drew | apply keep_alloc) | exact HK.out)))); have n1_ := Aside0.mk (IsS62.below (by repeat (first | (with_reducible first | exact HI0.out | apply IsS62.alloc | apply IsS62.drewN | apply IsS62.drew | apply IsS62.set_0 | apply IsS62.set_1 | apply IsS62.set_2 | apply IsS62.set_3 | apply IsS62.set_4 | apply IsS62.set_5) | exact HI0.out)) hb); have n2_ := Aside0.mk (KeepBut.trans (by repeat (first | (with_reducible first | exact HK.out | apply KeepBut.set_ | apply keep_drewN | apply keep_drew | apply keep_alloc) | exact HK.out)) (KeepBut.of_below hb g none) (.inl rfl)); have n3_ := Aside0.mk (below_step (by repeat (first | (with_reducible first | exact HB.out | apply below_alloc | apply pw_below_drewN | apply below_drew1 | refine below_set ?_ (IsS62.ge HI0.out)) | exact HB.out)) hb); clear HI0; clear HK; clear HB; have HO138 := n0_; have HI0 := n1_; have HK := n2_; have HB := n3_; clear n0_ n1_ n2_ n3_; clear hb ho14; obtain ⟨Ao15, co15, eo15⟩ := Kd.R_slice HO138.out; subst eo15) | (go_at_call 48; (with_reducible refine (life_of.calls kj1 _ _ y136 t139 _ ?side1 ?side2 A5.out).mono ?_); (case side1 => repeat (first | exact (Kd.R_reads' HO138.out).2.2 | (with_reducible refine Kd.C_alloc ?_ _) | (with_reducible refine Kd.C_drewN ?_ _) | (with_reducible refine Kd.C_drew ?_))); (case side2 => exact (Kd.R_reads' HO138.out).2.1); rintro e w' ⟨rfl, ⟨nd, rfl⟩⟩; (try first | exact ⟨rfl, _, World.drewN_drewN _ _ _⟩ | exact ⟨rfl, _, Eq.trans (World.drewN_drewN _ _ _) (congrArg (World.drewN _) (Nat.add_assoc _ _ _))⟩)) | (go_at_call 47; (with_reducible refine (life_Life_step.calls g s0_0 s0_1 s0_2 s0_3 s0_4 s0_5 t139 x3_1 t140 t141 t142 t143 t144 t145 t146 w0 _ ?side1 ?side2 A6.out).mono ?_); (case side1 => repeat (first | (with_reducible first | exact HI0.out | apply IsS62.alloc | apply IsS62.drewN | apply IsS62.drew | apply IsS62.set_0 | apply IsS62.set_1 | apply IsS62.set_2 | apply IsS62.set_3 | apply IsS62.set_4 | apply IsS62.set_5) | exact HI0.out)); (case side2 => repeat (first | (with_reducible first | exact HB.out | apply below_alloc | apply pw_below_drewN | apply below_drew1 | refine below_set ?_ (IsS62.ge HI0.out)) | exact HB.out)); rintro e w16 ⟨rfl, hi, hb, hk⟩; have n0_ := Aside0.mk (Kd.R_mono (Kd.R_keep (IsS62.apart (show IsS62 w0 _ g s0_0 s0_1 s0_2 s0_3 s0_4 s0_5 from by repeat (first | (with_reducible first | exact HI0.out | apply IsS62.alloc | apply IsS62.drewN | apply IsS62.drew | apply IsS62.set_0 | apply IsS62.set_1 | apply IsS62.set_2 | apply IsS62.set_3 | apply IsS62.set_4 | apply IsS62.set_5) | exact HI0.out)) (by (with_reducible repeat (first | apply Kd.R_alloc | apply Kd.R_drewN | apply Kd.R_drew)); exact HO138.out) (by decide)) hk (fun _ h => h.2)) (fun _ h => h.1)); have n1_ := Aside0.mk (KeepBut.trans (by repeat (first | (with_reducible first | exact HK.out | apply KeepBut.set_ | apply keep_drewN | apply keep_drew | apply keep_alloc) | exact HK.out)) hk (.inl rfl)); have n2_ := Aside0.mk (hb); have n3_ := Aside0.mk (hi); clear HO138; clear HK; clear HB; clear HI0; have HO138 := n0_; have HK := n1_; have HB := n2_; have HI0 := n3_; clear n0_ n1_ n2_ n3_; (try clear hb); (try clear hb2); (try clear hk); (try clear hi)))
        repeat (go_quiet (first | ((with_reducible refine gate_dst (N := 16) rfl ?_); refine Kd.R_lit (Kd.int .i64) _ 3 ?hg (N := 16) ?hd (xs := ([2] : List Int)) (inner := [.int .i64 2]) (ok := fun _ => True) (okp := fun _ => True) ?hr ?hp (fun _ hk => hk) trivial (Below.refl _ _) (Nat.le_refl _) (by simp) ?_; (case hd => rfl); (case hg => rfl); (case hr => first | (go_simp; done) | (go_simp; rfl)); (case hp => exact (Reps.one (show Kd.M (Kd.int .i64) _ _ _ 2 [.int .i64 2] from rfl) (Reps.none _ _))); intro v137 w13 ho14 hb hg_ hnew_; clear hg_ hnew_; (first | rw [← Ny136.out] at ho14 | (simp only [Int.reduceToNat] at ho14; rw [← Ny136.out] at ho14)); have n0_ := Aside0.mk (Kd.R_lower ho14 (keep_size (w := w) (g := g) (row := none) (by repeat (first | (with_reducible first | exact HK.out | apply KeepBut.set_ | apply keep_drewN | apply keep_drew | apply keep_alloc) | exact HK.out)))); have n1_ := Aside0.mk (IsS62.below (by repeat (first | (with_reducible first | exact HI0.out | apply IsS62.alloc | apply IsS62.drewN | apply IsS62.drew | apply IsS62.set_0 | apply IsS62.set_1 | apply IsS62.set_2 | apply IsS62.set_3 | apply IsS62.set_4 | apply IsS62.set_5) | exact HI0.out)) hb); have n2_ := Aside0.mk (KeepBut.trans (by repeat (first | (with_reducible first | exact HK.out | apply KeepBut.set_ | apply keep_drewN | apply keep_drew | apply keep_alloc) | exact HK.out)) (KeepBut.of_below hb g none) (.inl rfl)); have n3_ := Aside0.mk (below_step (by repeat (first | (with_reducible first | exact HB.out | apply below_alloc | apply pw_below_drewN | apply below_drew1 | refine below_set ?_ (IsS62.ge HI0.out)) | exact HB.out)) hb); clear HI0; clear HK; clear HB; have HO138 := n0_; have HI0 := n1_; have HK := n2_; have HB := n3_; clear n0_ n1_ n2_ n3_; clear hb ho14; obtain ⟨Ao15, co15, eo15⟩ := Kd.R_slice HO138.out; subst eo15) | (go_at_call 48; (with_reducible refine (life_of.calls kj1 _ _ y136 t139 _ ?side1 ?side2 A5.out).mono ?_); (case side1 => repeat (first | exact (Kd.R_reads' HO138.out).2.2 | (with_reducible refine Kd.C_alloc ?_ _) | (with_reducible refine Kd.C_drewN ?_ _) | (with_reducible refine Kd.C_drew ?_))); (case side2 => exact (Kd.R_reads' HO138.out).2.1); rintro e w' ⟨rfl, ⟨nd, rfl⟩⟩; (try first | exact ⟨rfl, _, World.drewN_drewN _ _ _⟩ | exact ⟨rfl, _, Eq.trans (World.drewN_drewN _ _ _) (congrArg (World.drewN _) (Nat.add_assoc _ _ _))⟩)) | (go_at_call 47; (with_reducible refine (life_Life_step.calls g s0_0 s0_1 s0_2 s0_3 s0_4 s0_5 t139 x3_1 t140 t141 t142 t143 t144 t145 t146 w0 _ ?side1 ?side2 A6.out).mono ?_); (case side1 => repeat (first | (with_reducible first | exact HI0.out | apply IsS62.alloc | apply IsS62.drewN | apply IsS62.drew | apply IsS62.set_0 | apply IsS62.set_1 | apply IsS62.set_2 | apply IsS62.set_3 | apply IsS62.set_4 | apply IsS62.set_5) | exact HI0.out)); (case side2 => repeat (first | (with_reducible first | exact HB.out | apply below_alloc | apply pw_below_drewN | apply below_drew1 | refine below_set ?_ (IsS62.ge HI0.out)) | exact HB.out)); rintro e w16 ⟨rfl, hi, hb, hk⟩; have n0_ := Aside0.mk (Kd.R_mono (Kd.R_keep (IsS62.apart (show IsS62 w0 _ g s0_0 s0_1 s0_2 s0_3 s0_4 s0_5 from by repeat (first | (with_reducible first | exact HI0.out | apply IsS62.alloc | apply IsS62.drewN | apply IsS62.drew | apply IsS62.set_0 | apply IsS62.set_1 | apply IsS62.set_2 | apply IsS62.set_3 | apply IsS62.set_4 | apply IsS62.set_5) | exact HI0.out)) (by (with_reducible repeat (first | apply Kd.R_alloc | apply Kd.R_drewN | apply Kd.R_drew)); exact HO138.out) (by decide)) hk (fun _ h => h.2)) (fun _ h => h.1)); have n1_ := Aside0.mk (KeepBut.trans (by repeat (first | (with_reducible first | exact HK.out | apply KeepBut.set_ | apply keep_drewN | apply keep_drew | apply keep_alloc) | exact HK.out)) hk (.inl rfl)); have n2_ := Aside0.mk (hb); have n3_ := Aside0.mk (hi); clear HO138; clear HK; clear HB; clear HI0; have HO138 := n0_; have HK := n1_; have HB := n2_; have HI0 := n3_; clear n0_ n1_ n2_ n3_; (try clear hb); (try clear hb2); (try clear hk); (try clear hi))); try go_wp2_with (first | ((with_reducible refine gate_dst (N := 16) rfl ?_); refine Kd.R_lit (Kd.int .i64) _ 3 ?hg (N := 16) ?hd (xs := ([2] : List Int)) (inner := [.int .i64 2]) (ok := fun _ => True) (okp := fun _ => True) ?hr ?hp (fun _ hk => hk) trivial (Below.refl _ _) (Nat.le_refl _) (by simp) ?_; (case hd => rfl); (case hg => rfl); (case hr => first | (go_simp; done) | (go_simp; rfl)); (case hp => exact (Reps.one (show Kd.M (Kd.int .i64) _ _ _ 2 [.int .i64 2] from rfl) (Reps.none _ _))); intro v137 w13 ho14 hb hg_ hnew_; clear hg_ hnew_; (first | rw [← Ny136.out] at ho14 | (simp only [Int.reduceToNat] at ho14; rw [← Ny136.out] at ho14)); have n0_ := Aside0.mk (Kd.R_lower ho14 (keep_size (w := w) (g := g) (row := none) (by repeat (first | (with_reducible first | exact HK.out | apply KeepBut.set_ | apply keep_drewN | apply keep_drew | apply keep_alloc) | exact HK.out)))); have n1_ := Aside0.mk (IsS62.below (by repeat (first | (with_reducible first | exact HI0.out | apply IsS62.alloc | apply IsS62.drewN | apply IsS62.drew | apply IsS62.set_0 | apply IsS62.set_1 | apply IsS62.set_2 | apply IsS62.set_3 | apply IsS62.set_4 | apply IsS62.set_5) | exact HI0.out)) hb); have n2_ := Aside0.mk (KeepBut.trans (by repeat (first | (with_reducible first | exact HK.out | apply KeepBut.set_ | apply keep_drewN | apply keep_drew | apply keep_alloc) | exact HK.out)) (KeepBut.of_below hb g none) (.inl rfl)); have n3_ := Aside0.mk (below_step (by repeat (first | (with_reducible first | exact HB.out | apply below_alloc | apply pw_below_drewN | apply below_drew1 | refine below_set ?_ (IsS62.ge HI0.out)) | exact HB.out)) hb); clear HI0; clear HK; clear HB; have HO138 := n0_; have HI0 := n1_; have HK := n2_; have HB := n3_; clear n0_ n1_ n2_ n3_; clear hb ho14; obtain ⟨Ao15, co15, eo15⟩ := Kd.R_slice HO138.out; subst eo15) | (go_at_call 48; (with_reducible refine (life_of.calls kj1 _ _ y136 t139 _ ?side1 ?side2 A5.out).mono ?_); (case side1 => repeat (first | exact (Kd.R_reads' HO138.out).2.2 | (with_reducible refine Kd.C_alloc ?_ _) | (with_reducible refine Kd.C_drewN ?_ _) | (with_reducible refine Kd.C_drew ?_))); (case side2 => exact (Kd.R_reads' HO138.out).2.1); rintro e w' ⟨rfl, ⟨nd, rfl⟩⟩; (try first | exact ⟨rfl, _, World.drewN_drewN _ _ _⟩ | exact ⟨rfl, _, Eq.trans (World.drewN_drewN _ _ _) (congrArg (World.drewN _) (Nat.add_assoc _ _ _))⟩)) | (go_at_call 47; (with_reducible refine (life_Life_step.calls g s0_0 s0_1 s0_2 s0_3 s0_4 s0_5 t139 x3_1 t140 t141 t142 t143 t144 t145 t146 w0 _ ?side1 ?side2 A6.out).mono ?_); (case side1 => repeat (first | (with_reducible first | exact HI0.out | apply IsS62.alloc | apply IsS62.drewN | apply IsS62.drew | apply IsS62.set_0 | apply IsS62.set_1 | apply IsS62.set_2 | apply IsS62.set_3 | apply IsS62.set_4 | apply IsS62.set_5) | exact HI0.out)); (case side2 => repeat (first | (with_reducible first | exact HB.out | apply below_alloc | apply pw_below_drewN | apply below_drew1 | refine below_set ?_ (IsS62.ge HI0.out)) | exact HB.out)); rintro e w16 ⟨rfl, hi, hb, hk⟩; have n0_ := Aside0.mk (Kd.R_mono (Kd.R_keep (IsS62.apart (show IsS62 w0 _ g s0_0 s0_1 s0_2 s0_3 s0_4 s0_5 from by repeat (first | (with_reducible first | exact HI0.out | apply IsS62.alloc | apply IsS62.drewN | apply IsS62.drew | apply IsS62.set_0 | apply IsS62.set_1 | apply IsS62.set_2 | apply IsS62.set_3 | apply IsS62.set_4 | apply IsS62.set_5) | exact HI0.out)) (by (with_reducible repeat (first | apply Kd.R_alloc | apply Kd.R_drewN | apply Kd.R_drew)); exact HO138.out) (by decide)) hk (fun _ h => h.2)) (fun _ h => h.1)); have n1_ := Aside0.mk (KeepBut.trans (by repeat (first | (with_reducible first | exact HK.out | apply KeepBut.set_ | apply keep_drewN | apply keep_drew | apply keep_alloc) | exact HK.out)) hk (.inl rfl)); have n2_ := Aside0.mk (hb); have n3_ := Aside0.mk (hi); clear HO138; clear HK; clear HB; clear HI0; have HO138 := n0_; have HK := n1_; have HB := n2_; have HI0 := n3_; clear n0_ n1_ n2_ n3_; (try clear hb); (try clear hb2); (try clear hk); (try clear hi))))
        go_ret
        exact ⟨by first | rfl | (simp [errW_none, errW_some] <;> rfl) | (simp [*, errW_none, errW_some] <;> rfl), by repeat (first | (with_reducible first | exact HI0.out | apply IsS62.alloc | apply IsS62.drewN | apply IsS62.drew | apply IsS62.set_0 | apply IsS62.set_1 | apply IsS62.set_2 | apply IsS62.set_3 | apply IsS62.set_4 | apply IsS62.set_5) | exact HI0.out), by repeat (first | (with_reducible first | exact HB.out | apply below_alloc | apply pw_below_drewN | apply below_drew1 | refine below_set ?_ (IsS62.ge HI0.out)) | exact HB.out), by repeat (first | (with_reducible first | exact HK.out | apply KeepBut.set_ | apply keep_drewN | apply keep_drew | apply keep_alloc) | exact HK.out)⟩

/-! ### life_Life_Rested: function 46 -/
def life_Life_Rested.f (k : Nat) (s0_0 : Int) (s0_1 : Int) (s0_2 : Int) (s0_3 : Int) (s0_4 : Int) (s0_5 : Int) : Option (Int × Int × Int × Int × Int × Int × Int) := (life_of.f k (([4] : List Int))).bind fun t150 => ((life_Life_step.f s0_0 s0_1 s0_2 s0_3 s0_4 s0_5 t150 1).bind fun bt151 => (some (bt151.1, bt151.2.1, bt151.2.2.1, bt151.2.2.2.1, bt151.2.2.2.2.1, bt151.2.2.2.2.2.1, bt151.2.2.2.2.2.2)))
theorem life_Life_Rested.mono : ∀ a0 a1 a2 a3 a4 a5 k, LeO (life_Life_Rested.f k a0 a1 a2 a3 a4 a5) (life_Life_Rested.f (k + 1) a0 a1 a2 a3 a4 a5) := by
  intro a0 a1 a2 a3 a4 a5 k
  unfold life_Life_Rested.f
  repeat' first
      | (with_reducible exact life_of.mono _ _)
      | (with_reducible exact LeO.refl _)
      | (with_reducible exact LeO.none _)
      | (with_reducible refine LeO.ite ?_ ?_)
      | (with_reducible refine LeO.bind ?_ (fun _ => ?_))
      | exact life_of.mono _ _
      | exact LeO.none _
      | refine LeO.ite ?_ ?_
      | refine LeO.bind ?_ (fun _ => ?_)
set_option maxHeartbeats 8000000 in
set_option maxRecDepth 100000 in
theorem life_Life_Rested.calls (k : Nat) (g : Nat) (s0_0 : Int) (s0_1 : Int) (s0_2 : Int) (s0_3 : Int) (s0_4 : Int) (s0_5 : Int) (r1 : Int) (r2 : Int) (r3 : Int) (r4 : Int) (r5 : Int) (r6 : Int) (r7 : Int) (w0 w : World) (hI : IsS62 w0 w g s0_0 s0_1 s0_2 s0_3 s0_4 s0_5) (hB : Below w0.heap.size w0 w) (h : life_Life_Rested.f k s0_0 s0_1 s0_2 s0_3 s0_4 s0_5 = some (r1, r2, r3, r4, r5, r6, r7)) :
    Calls Try.prog 46 #[.pointer (some ⟨g, 0, none⟩)] w fun e w' => e = .returned (.int .i64 r1) ∧ IsS62 w0 w' g r2 r3 r4 r5 r6 r7 ∧ Below w0.heap.size w0 w' ∧ KeepBut w w' g none := by
  have HI0 := Aside0.mk hI
  have HK := Aside0.mk (KeepBut.refl w g none)
  have HL := Aside0.mk hB.size
  clear hI
  have HW0 := Aside0.mk hB.size
  have HB := Aside0.mk hB
  clear hB
  have H : ((life_of.f k (([4] : List Int))).bind fun t150 => ((life_Life_step.f s0_0 s0_1 s0_2 s0_3 s0_4 s0_5 t150 1).bind fun bt151 => (some (bt151.1, bt151.2.1, bt151.2.2.1, bt151.2.2.2.1, bt151.2.2.2.2.1, bt151.2.2.2.2.2.1, bt151.2.2.2.2.2.2)))) = some (r1, r2, r3, r4, r5, r6, r7) := h
  clear h
  obtain ⟨y147, hy147⟩ : ∃ y_ : List Int, y_ = (([4] : List Int)) := ⟨_, rfl⟩
  replace H : ((life_of.f k y147).bind fun t150 => ((life_Life_step.f s0_0 s0_1 s0_2 s0_3 s0_4 s0_5 t150 1).bind fun bt151 => (some (bt151.1, bt151.2.1, bt151.2.2.1, bt151.2.2.2.1, bt151.2.2.2.2.1, bt151.2.2.2.2.2.1, bt151.2.2.2.2.2.2)))) = some (r1, r2, r3, r4, r5, r6, r7) := by first | (rw [hy147]; with_reducible exact H) | (have H2_ := (Option.bind_some _ _).symm.trans H; rw [hy147]; with_reducible exact H2_) | (have H2_ := (Option.bind_some _ _).symm.trans H; with_reducible exact H2_) | with_reducible exact H | (rw [hy147]; exact H) | exact H
  have Ny147 := Aside0.mk hy147
  clear hy147
  replace H := Option.bind_eq_some_iff.mp H
  obtain ⟨t150, A20, H⟩ := H
  replace H : ((life_Life_step.f s0_0 s0_1 s0_2 s0_3 s0_4 s0_5 t150 1).bind fun bt151 => (some (bt151.1, bt151.2.1, bt151.2.2.1, bt151.2.2.2.1, bt151.2.2.2.2.1, bt151.2.2.2.2.2.1, bt151.2.2.2.2.2.2))) = some (r1, r2, r3, r4, r5, r6, r7) := H
  have A2 := Aside0.mk A20
  clear A20
  replace H := Option.bind_eq_some_iff.mp H
  obtain ⟨⟨t151, t152, t153, t154, t155, t156, t157⟩, A30, H⟩ := H
  replace H : (some (t151, t152, t153, t154, t155, t156, t157)) = some (r1, r2, r3, r4, r5, r6, r7) := H
  have A3 := Aside0.mk A30
  clear A30
  simp only [Option.some.injEq, Prod.mk.injEq] at H
  obtain ⟨rfl, rfl, rfl, rfl, rfl, rfl, rfl⟩ := H
  go_enter Try.func46, Try.ntmps46
  go_wp2_with (first | ((with_reducible refine gate_dst (N := 4) rfl ?_); refine Kd.R_lit (Kd.int .i64) _ 3 ?hg (N := 4) ?hd (xs := ([4] : List Int)) (inner := [.int .i64 4]) (ok := fun _ => True) (okp := fun _ => True) ?hr ?hp (fun _ hk => hk) trivial (Below.refl _ _) (Nat.le_refl _) (by simp) ?_; (case hd => rfl); (case hg => rfl); (case hr => first | (go_simp; done) | (go_simp; rfl)); (case hp => exact (Reps.one (show Kd.M (Kd.int .i64) _ _ _ 4 [.int .i64 4] from rfl) (Reps.none _ _))); intro v148 w4 ho5 hb hg_ hnew_; clear hg_ hnew_; (first | rw [← Ny147.out] at ho5 | (simp only [Int.reduceToNat] at ho5; rw [← Ny147.out] at ho5)); have n0_ := Aside0.mk (Kd.R_lower ho5 (keep_size (w := w) (g := g) (row := none) (by repeat (first | (with_reducible first | exact HK.out | apply KeepBut.set_ | apply keep_drewN | apply keep_drew | apply keep_alloc) | exact HK.out)))); have n1_ := Aside0.mk (IsS62.below (by repeat (first | (with_reducible first | exact HI0.out | apply IsS62.alloc | apply IsS62.drewN | apply IsS62.drew | apply IsS62.set_0 | apply IsS62.set_1 | apply IsS62.set_2 | apply IsS62.set_3 | apply IsS62.set_4 | apply IsS62.set_5) | exact HI0.out)) hb); have n2_ := Aside0.mk (KeepBut.trans (by repeat (first | (with_reducible first | exact HK.out | apply KeepBut.set_ | apply keep_drewN | apply keep_drew | apply keep_alloc) | exact HK.out)) (KeepBut.of_below hb g none) (.inl rfl)); have n3_ := Aside0.mk (below_step (by repeat (first | (with_reducible first | exact HB.out | apply below_alloc | apply pw_below_drewN | apply below_drew1 | refine below_set ?_ (IsS62.ge HI0.out)) | exact HB.out)) hb); clear HI0; clear HK; clear HB; have HO149 := n0_; have HI0 := n1_; have HK := n2_; have HB := n3_; clear n0_ n1_ n2_ n3_; clear hb ho5; obtain ⟨Ao6, co6, eo6⟩ := Kd.R_slice HO149.out; subst eo6) | ((with_reducible refine gate_callee (f := 48) rfl ?_); refine goesL_ (some 5) rfl rfl Try.func48 (by kernel_rfl) rfl #[.slice Ao6 y147.length co6] rfl (by (try simp only [List.map_toArray, List.map_cons, List.map_nil]); first | done | rfl | (simp only [List.length_drop, List.length_take]; rfl)) ?_; (with_reducible refine (life_of.calls k _ _ y147 t150 _ ?side1 ?side2 A2.out).mono ?_); (case side1 => repeat (first | exact (Kd.R_reads' HO149.out).2.2 | (with_reducible refine Kd.C_alloc ?_ _) | (with_reducible refine Kd.C_drewN ?_ _) | (with_reducible refine Kd.C_drew ?_))); (case side2 => exact (Kd.R_reads' HO149.out).2.1); rintro e w' ⟨rfl, ⟨nd, rfl⟩⟩; refine ⟨_, rfl, ?_⟩) | ((with_reducible refine gate_callee (f := 47) rfl ?_); refine goesL_ (some 6) rfl rfl Try.func47 (by kernel_rfl) rfl #[.pointer (some ⟨g, 0, none⟩), .int .u8 t150, .int .i64 1] rfl (by (try simp only [List.map_toArray, List.map_cons, List.map_nil]); first | done | rfl | (simp only [List.length_drop, List.length_take]; rfl)) ?_; (with_reducible refine (life_Life_step.calls g s0_0 s0_1 s0_2 s0_3 s0_4 s0_5 t150 1 t151 t152 t153 t154 t155 t156 t157 w0 _ ?side1 ?side2 A3.out).mono ?_); (case side1 => repeat (first | (with_reducible first | exact HI0.out | apply IsS62.alloc | apply IsS62.drewN | apply IsS62.drew | apply IsS62.set_0 | apply IsS62.set_1 | apply IsS62.set_2 | apply IsS62.set_3 | apply IsS62.set_4 | apply IsS62.set_5) | exact HI0.out)); (case side2 => repeat (first | (with_reducible first | exact HB.out | apply below_alloc | apply pw_below_drewN | apply below_drew1 | refine below_set ?_ (IsS62.ge HI0.out)) | exact HB.out)); rintro e w7 ⟨rfl, hi, hb, hk⟩; refine ⟨_, rfl, ?_⟩; have n0_ := Aside0.mk (Kd.R_mono (Kd.R_keep (IsS62.apart (show IsS62 w0 _ g s0_0 s0_1 s0_2 s0_3 s0_4 s0_5 from by repeat (first | (with_reducible first | exact HI0.out | apply IsS62.alloc | apply IsS62.drewN | apply IsS62.drew | apply IsS62.set_0 | apply IsS62.set_1 | apply IsS62.set_2 | apply IsS62.set_3 | apply IsS62.set_4 | apply IsS62.set_5) | exact HI0.out)) (by (with_reducible repeat (first | apply Kd.R_alloc | apply Kd.R_drewN | apply Kd.R_drew)); exact HO149.out) (by decide)) hk (fun _ h => h.2)) (fun _ h => h.1)); have n1_ := Aside0.mk (KeepBut.trans (by repeat (first | (with_reducible first | exact HK.out | apply KeepBut.set_ | apply keep_drewN | apply keep_drew | apply keep_alloc) | exact HK.out)) hk (.inl rfl)); have n2_ := Aside0.mk (hb); have n3_ := Aside0.mk (hi); clear HO149; clear HK; clear HB; clear HI0; have HO149 := n0_; have HK := n1_; have HB := n2_; have HI0 := n3_; clear n0_ n1_ n2_ n3_; (try clear hb); (try clear hb2); (try clear hk); (try clear hi)))
  go_ret
  exact ⟨by first | rfl | (simp [errW_none, errW_some] <;> rfl) | (simp [*, errW_none, errW_some] <;> rfl), by repeat (first | (with_reducible first | exact HI0.out | apply IsS62.alloc | apply IsS62.drewN | apply IsS62.drew | apply IsS62.set_0 | apply IsS62.set_1 | apply IsS62.set_2 | apply IsS62.set_3 | apply IsS62.set_4 | apply IsS62.set_5) | exact HI0.out), by repeat (first | (with_reducible first | exact HB.out | apply below_alloc | apply pw_below_drewN | apply below_drew1 | refine below_set ?_ (IsS62.ge HI0.out)) | exact HB.out), by repeat (first | (with_reducible first | exact HK.out | apply KeepBut.set_ | apply keep_drewN | apply keep_drew | apply keep_alloc) | exact HK.out)⟩

/-! ### millwrightlaw09_shown: function 15 -/
def millwrightlaw09_shown.f (k : Nat)  : Option (Bool) := (life_New.f 2 1).bind fun bt158 => ((life_Life_Start.f k bt158.1 bt158.2.1 bt158.2.2.1 bt158.2.2.2.1 bt158.2.2.2.2.1 bt158.2.2.2.2.2).bind fun bt165 => ((life_Life_Want.f k bt165.2.1 bt165.2.2.1 bt165.2.2.2.1 bt165.2.2.2.2.1 bt165.2.2.2.2.2.1 bt165.2.2.2.2.2.2).bind fun bt172 => ((life_Life_Start.f k bt172.2.1 bt172.2.2.1 bt172.2.2.2.1 bt172.2.2.2.2.1 bt172.2.2.2.2.2.1 bt172.2.2.2.2.2.2).bind fun bt179 => ((life_Life_Stop.f k bt179.2.1 bt179.2.2.1 bt179.2.2.2.1 bt179.2.2.2.2.1 bt179.2.2.2.2.2.1 bt179.2.2.2.2.2.2).bind fun bt186 => ((life_Life_Start.f k bt186.2.1 bt186.2.2.1 bt186.2.2.2.1 bt186.2.2.2.2.1 bt186.2.2.2.2.2.1 bt186.2.2.2.2.2.2).bind fun bt193 => ((life_Life_Stop.f k bt193.2.1 bt193.2.2.1 bt193.2.2.2.1 bt193.2.2.2.2.1 bt193.2.2.2.2.2.1 bt193.2.2.2.2.2.2).bind fun bt200 => ((life_Life_Right.f bt200.2.1 bt200.2.2.1 bt200.2.2.2.1 bt200.2.2.2.2.1 bt200.2.2.2.2.2.1 bt200.2.2.2.2.2.2 2).bind fun bt207 => ((life_Life_Right.f bt207.2.1 bt207.2.2.1 bt207.2.2.2.1 bt207.2.2.2.2.1 bt207.2.2.2.2.2.1 bt207.2.2.2.2.2.2 1).bind fun bt214 => ((life_Life_Miss.f k bt214.2.1 bt214.2.2.1 bt214.2.2.2.1 bt214.2.2.2.2.1 bt214.2.2.2.2.2.1 bt214.2.2.2.2.2.2).bind fun bt221 => ((life_Life_State.f bt221.2.1 bt221.2.2.1 bt221.2.2.2.1 bt221.2.2.2.2.1 bt221.2.2.2.2.2.1 bt221.2.2.2.2.2.2).bind fun bt228 => ((life_Life_Rested.f k bt228.2.1 bt228.2.2.1 bt228.2.2.2.1 bt228.2.2.2.2.1 bt228.2.2.2.2.2.1 bt228.2.2.2.2.2.2).bind fun bt235 => ((life_Life_Start.f k bt235.2.1 bt235.2.2.1 bt235.2.2.2.1 bt235.2.2.2.2.1 bt235.2.2.2.2.2.1 bt235.2.2.2.2.2.2).bind fun bt242 => ((life_Life_Miss.f k bt242.2.1 bt242.2.2.1 bt242.2.2.2.1 bt242.2.2.2.2.1 bt242.2.2.2.2.2.1 bt242.2.2.2.2.2.2).bind fun bt249 => (if bt165.1 = 8 then (if bt172.1 = 0 then (if bt179.1 = 0 then (if bt186.1 = 0 then (if bt193.1 = 0 then (if bt200.1 = 4 then (if bt207.1 = 0 then (if bt214.1 = 7 then (if bt221.1 = 0 then (if bt228.1 = 4 then ((life_Life_State.f bt249.2.1 bt249.2.2.1 bt249.2.2.2.1 bt249.2.2.2.2.1 bt249.2.2.2.2.2.1 bt249.2.2.2.2.2.2).bind fun bt256 => (if bt256.1 = 6 then ((life_Life_Final.f bt256.2.1 bt256.2.2.1 bt256.2.2.2.1 bt256.2.2.2.2.1 bt256.2.2.2.2.2.1 bt256.2.2.2.2.2.2).bind fun bt263 => (if bt263.1 = true then ((life_Life_Epoch.f bt263.2.1 bt263.2.2.1 bt263.2.2.2.1 bt263.2.2.2.2.1 bt263.2.2.2.2.2.1 bt263.2.2.2.2.2.2).bind fun bt270 => (if bt270.1 = 3 then ((life_Life_Stopped.f bt270.2.1 bt270.2.2.1 bt270.2.2.2.1 bt270.2.2.2.2.1 bt270.2.2.2.2.2.1 bt270.2.2.2.2.2.2).bind fun bt277 => (if bt277.1 = 1 then ((life_Life_Missed.f bt277.2.1 bt277.2.2.1 bt277.2.2.2.1 bt277.2.2.2.2.1 bt277.2.2.2.2.2.1 bt277.2.2.2.2.2.2).bind fun bt284 => (some (bt284.1 == 2))) else (some false))) else (some false))) else (some false))) else (some false))) else (some false)) else (some false)) else (some false)) else (some false)) else (some false)) else (some false)) else (some false)) else (some false)) else (some false)) else (some false)))))))))))))))
theorem millwrightlaw09_shown.mono : ∀ k, LeO (millwrightlaw09_shown.f k ) (millwrightlaw09_shown.f (k + 1) ) := by
  intro  k
  unfold millwrightlaw09_shown.f
  repeat' first
      | (with_reducible exact life_Life_Miss.mono _ _ _ _ _ _ _)
      | (with_reducible exact life_Life_Rested.mono _ _ _ _ _ _ _)
      | (with_reducible exact life_Life_Start.mono _ _ _ _ _ _ _)
      | (with_reducible exact life_Life_Stop.mono _ _ _ _ _ _ _)
      | (with_reducible exact life_Life_Want.mono _ _ _ _ _ _ _)
      | (with_reducible exact LeO.refl _)
      | (with_reducible exact LeO.none _)
      | (with_reducible refine LeO.ite ?_ ?_)
      | (with_reducible refine LeO.bind ?_ (fun _ => ?_))
      | exact life_Life_Miss.mono _ _ _ _ _ _ _
      | exact life_Life_Rested.mono _ _ _ _ _ _ _
      | exact life_Life_Start.mono _ _ _ _ _ _ _
      | exact life_Life_Stop.mono _ _ _ _ _ _ _
      | exact life_Life_Want.mono _ _ _ _ _ _ _
      | exact LeO.none _
      | refine LeO.ite ?_ ?_
      | refine LeO.bind ?_ (fun _ => ?_)
set_option maxHeartbeats 8000000 in
set_option maxRecDepth 100000 in
theorem millwrightlaw09_shown.callsT (k : Nat)  (w : World) (h : millwrightlaw09_shown.f k  = some true) :
    Calls Try.prog 15 #[] w fun e w' => e = .returned (.bool true) ∧ Below w.heap.size w w' := by
  have HB := Aside0.mk (Below.refl w.heap.size w)
  have H : ((life_New.f 2 1).bind fun bt158 => ((life_Life_Start.f k bt158.1 bt158.2.1 bt158.2.2.1 bt158.2.2.2.1 bt158.2.2.2.2.1 bt158.2.2.2.2.2).bind fun bt165 => ((life_Life_Want.f k bt165.2.1 bt165.2.2.1 bt165.2.2.2.1 bt165.2.2.2.2.1 bt165.2.2.2.2.2.1 bt165.2.2.2.2.2.2).bind fun bt172 => ((life_Life_Start.f k bt172.2.1 bt172.2.2.1 bt172.2.2.2.1 bt172.2.2.2.2.1 bt172.2.2.2.2.2.1 bt172.2.2.2.2.2.2).bind fun bt179 => ((life_Life_Stop.f k bt179.2.1 bt179.2.2.1 bt179.2.2.2.1 bt179.2.2.2.2.1 bt179.2.2.2.2.2.1 bt179.2.2.2.2.2.2).bind fun bt186 => ((life_Life_Start.f k bt186.2.1 bt186.2.2.1 bt186.2.2.2.1 bt186.2.2.2.2.1 bt186.2.2.2.2.2.1 bt186.2.2.2.2.2.2).bind fun bt193 => ((life_Life_Stop.f k bt193.2.1 bt193.2.2.1 bt193.2.2.2.1 bt193.2.2.2.2.1 bt193.2.2.2.2.2.1 bt193.2.2.2.2.2.2).bind fun bt200 => ((life_Life_Right.f bt200.2.1 bt200.2.2.1 bt200.2.2.2.1 bt200.2.2.2.2.1 bt200.2.2.2.2.2.1 bt200.2.2.2.2.2.2 2).bind fun bt207 => ((life_Life_Right.f bt207.2.1 bt207.2.2.1 bt207.2.2.2.1 bt207.2.2.2.2.1 bt207.2.2.2.2.2.1 bt207.2.2.2.2.2.2 1).bind fun bt214 => ((life_Life_Miss.f k bt214.2.1 bt214.2.2.1 bt214.2.2.2.1 bt214.2.2.2.2.1 bt214.2.2.2.2.2.1 bt214.2.2.2.2.2.2).bind fun bt221 => ((life_Life_State.f bt221.2.1 bt221.2.2.1 bt221.2.2.2.1 bt221.2.2.2.2.1 bt221.2.2.2.2.2.1 bt221.2.2.2.2.2.2).bind fun bt228 => ((life_Life_Rested.f k bt228.2.1 bt228.2.2.1 bt228.2.2.2.1 bt228.2.2.2.2.1 bt228.2.2.2.2.2.1 bt228.2.2.2.2.2.2).bind fun bt235 => ((life_Life_Start.f k bt235.2.1 bt235.2.2.1 bt235.2.2.2.1 bt235.2.2.2.2.1 bt235.2.2.2.2.2.1 bt235.2.2.2.2.2.2).bind fun bt242 => ((life_Life_Miss.f k bt242.2.1 bt242.2.2.1 bt242.2.2.2.1 bt242.2.2.2.2.1 bt242.2.2.2.2.2.1 bt242.2.2.2.2.2.2).bind fun bt249 => (if bt165.1 = 8 then (if bt172.1 = 0 then (if bt179.1 = 0 then (if bt186.1 = 0 then (if bt193.1 = 0 then (if bt200.1 = 4 then (if bt207.1 = 0 then (if bt214.1 = 7 then (if bt221.1 = 0 then (if bt228.1 = 4 then ((life_Life_State.f bt249.2.1 bt249.2.2.1 bt249.2.2.2.1 bt249.2.2.2.2.1 bt249.2.2.2.2.2.1 bt249.2.2.2.2.2.2).bind fun bt256 => (if bt256.1 = 6 then ((life_Life_Final.f bt256.2.1 bt256.2.2.1 bt256.2.2.2.1 bt256.2.2.2.2.1 bt256.2.2.2.2.2.1 bt256.2.2.2.2.2.2).bind fun bt263 => (if bt263.1 = true then ((life_Life_Epoch.f bt263.2.1 bt263.2.2.1 bt263.2.2.2.1 bt263.2.2.2.2.1 bt263.2.2.2.2.2.1 bt263.2.2.2.2.2.2).bind fun bt270 => (if bt270.1 = 3 then ((life_Life_Stopped.f bt270.2.1 bt270.2.2.1 bt270.2.2.2.1 bt270.2.2.2.2.1 bt270.2.2.2.2.2.1 bt270.2.2.2.2.2.2).bind fun bt277 => (if bt277.1 = 1 then ((life_Life_Missed.f bt277.2.1 bt277.2.2.1 bt277.2.2.2.1 bt277.2.2.2.2.1 bt277.2.2.2.2.2.1 bt277.2.2.2.2.2.2).bind fun bt284 => (some (bt284.1 == 2))) else (some false))) else (some false))) else (some false))) else (some false))) else (some false)) else (some false)) else (some false)) else (some false)) else (some false)) else (some false)) else (some false)) else (some false)) else (some false)) else (some false)))))))))))))))) = some true := h
  clear h
  replace H := Option.bind_eq_some_iff.mp H
  obtain ⟨⟨t158, t159, t160, t161, t162, t163⟩, A10, H⟩ := H
  replace H : ((life_Life_Start.f k t158 t159 t160 t161 t162 t163).bind fun bt165 => ((life_Life_Want.f k bt165.2.1 bt165.2.2.1 bt165.2.2.2.1 bt165.2.2.2.2.1 bt165.2.2.2.2.2.1 bt165.2.2.2.2.2.2).bind fun bt172 => ((life_Life_Start.f k bt172.2.1 bt172.2.2.1 bt172.2.2.2.1 bt172.2.2.2.2.1 bt172.2.2.2.2.2.1 bt172.2.2.2.2.2.2).bind fun bt179 => ((life_Life_Stop.f k bt179.2.1 bt179.2.2.1 bt179.2.2.2.1 bt179.2.2.2.2.1 bt179.2.2.2.2.2.1 bt179.2.2.2.2.2.2).bind fun bt186 => ((life_Life_Start.f k bt186.2.1 bt186.2.2.1 bt186.2.2.2.1 bt186.2.2.2.2.1 bt186.2.2.2.2.2.1 bt186.2.2.2.2.2.2).bind fun bt193 => ((life_Life_Stop.f k bt193.2.1 bt193.2.2.1 bt193.2.2.2.1 bt193.2.2.2.2.1 bt193.2.2.2.2.2.1 bt193.2.2.2.2.2.2).bind fun bt200 => ((life_Life_Right.f bt200.2.1 bt200.2.2.1 bt200.2.2.2.1 bt200.2.2.2.2.1 bt200.2.2.2.2.2.1 bt200.2.2.2.2.2.2 2).bind fun bt207 => ((life_Life_Right.f bt207.2.1 bt207.2.2.1 bt207.2.2.2.1 bt207.2.2.2.2.1 bt207.2.2.2.2.2.1 bt207.2.2.2.2.2.2 1).bind fun bt214 => ((life_Life_Miss.f k bt214.2.1 bt214.2.2.1 bt214.2.2.2.1 bt214.2.2.2.2.1 bt214.2.2.2.2.2.1 bt214.2.2.2.2.2.2).bind fun bt221 => ((life_Life_State.f bt221.2.1 bt221.2.2.1 bt221.2.2.2.1 bt221.2.2.2.2.1 bt221.2.2.2.2.2.1 bt221.2.2.2.2.2.2).bind fun bt228 => ((life_Life_Rested.f k bt228.2.1 bt228.2.2.1 bt228.2.2.2.1 bt228.2.2.2.2.1 bt228.2.2.2.2.2.1 bt228.2.2.2.2.2.2).bind fun bt235 => ((life_Life_Start.f k bt235.2.1 bt235.2.2.1 bt235.2.2.2.1 bt235.2.2.2.2.1 bt235.2.2.2.2.2.1 bt235.2.2.2.2.2.2).bind fun bt242 => ((life_Life_Miss.f k bt242.2.1 bt242.2.2.1 bt242.2.2.2.1 bt242.2.2.2.2.1 bt242.2.2.2.2.2.1 bt242.2.2.2.2.2.2).bind fun bt249 => (if bt165.1 = 8 then (if bt172.1 = 0 then (if bt179.1 = 0 then (if bt186.1 = 0 then (if bt193.1 = 0 then (if bt200.1 = 4 then (if bt207.1 = 0 then (if bt214.1 = 7 then (if bt221.1 = 0 then (if bt228.1 = 4 then ((life_Life_State.f bt249.2.1 bt249.2.2.1 bt249.2.2.2.1 bt249.2.2.2.2.1 bt249.2.2.2.2.2.1 bt249.2.2.2.2.2.2).bind fun bt256 => (if bt256.1 = 6 then ((life_Life_Final.f bt256.2.1 bt256.2.2.1 bt256.2.2.2.1 bt256.2.2.2.2.1 bt256.2.2.2.2.2.1 bt256.2.2.2.2.2.2).bind fun bt263 => (if bt263.1 = true then ((life_Life_Epoch.f bt263.2.1 bt263.2.2.1 bt263.2.2.2.1 bt263.2.2.2.2.1 bt263.2.2.2.2.2.1 bt263.2.2.2.2.2.2).bind fun bt270 => (if bt270.1 = 3 then ((life_Life_Stopped.f bt270.2.1 bt270.2.2.1 bt270.2.2.2.1 bt270.2.2.2.2.1 bt270.2.2.2.2.2.1 bt270.2.2.2.2.2.2).bind fun bt277 => (if bt277.1 = 1 then ((life_Life_Missed.f bt277.2.1 bt277.2.2.1 bt277.2.2.2.1 bt277.2.2.2.2.1 bt277.2.2.2.2.2.1 bt277.2.2.2.2.2.2).bind fun bt284 => (some (bt284.1 == 2))) else (some false))) else (some false))) else (some false))) else (some false))) else (some false)) else (some false)) else (some false)) else (some false)) else (some false)) else (some false)) else (some false)) else (some false)) else (some false)) else (some false))))))))))))))) = some true := H
  have A1 := Aside0.mk A10
  clear A10
  replace H := Option.bind_eq_some_iff.mp H
  obtain ⟨⟨t165, t166, t167, t168, t169, t170, t171⟩, A20, H⟩ := H
  replace H : ((life_Life_Want.f k t166 t167 t168 t169 t170 t171).bind fun bt172 => ((life_Life_Start.f k bt172.2.1 bt172.2.2.1 bt172.2.2.2.1 bt172.2.2.2.2.1 bt172.2.2.2.2.2.1 bt172.2.2.2.2.2.2).bind fun bt179 => ((life_Life_Stop.f k bt179.2.1 bt179.2.2.1 bt179.2.2.2.1 bt179.2.2.2.2.1 bt179.2.2.2.2.2.1 bt179.2.2.2.2.2.2).bind fun bt186 => ((life_Life_Start.f k bt186.2.1 bt186.2.2.1 bt186.2.2.2.1 bt186.2.2.2.2.1 bt186.2.2.2.2.2.1 bt186.2.2.2.2.2.2).bind fun bt193 => ((life_Life_Stop.f k bt193.2.1 bt193.2.2.1 bt193.2.2.2.1 bt193.2.2.2.2.1 bt193.2.2.2.2.2.1 bt193.2.2.2.2.2.2).bind fun bt200 => ((life_Life_Right.f bt200.2.1 bt200.2.2.1 bt200.2.2.2.1 bt200.2.2.2.2.1 bt200.2.2.2.2.2.1 bt200.2.2.2.2.2.2 2).bind fun bt207 => ((life_Life_Right.f bt207.2.1 bt207.2.2.1 bt207.2.2.2.1 bt207.2.2.2.2.1 bt207.2.2.2.2.2.1 bt207.2.2.2.2.2.2 1).bind fun bt214 => ((life_Life_Miss.f k bt214.2.1 bt214.2.2.1 bt214.2.2.2.1 bt214.2.2.2.2.1 bt214.2.2.2.2.2.1 bt214.2.2.2.2.2.2).bind fun bt221 => ((life_Life_State.f bt221.2.1 bt221.2.2.1 bt221.2.2.2.1 bt221.2.2.2.2.1 bt221.2.2.2.2.2.1 bt221.2.2.2.2.2.2).bind fun bt228 => ((life_Life_Rested.f k bt228.2.1 bt228.2.2.1 bt228.2.2.2.1 bt228.2.2.2.2.1 bt228.2.2.2.2.2.1 bt228.2.2.2.2.2.2).bind fun bt235 => ((life_Life_Start.f k bt235.2.1 bt235.2.2.1 bt235.2.2.2.1 bt235.2.2.2.2.1 bt235.2.2.2.2.2.1 bt235.2.2.2.2.2.2).bind fun bt242 => ((life_Life_Miss.f k bt242.2.1 bt242.2.2.1 bt242.2.2.2.1 bt242.2.2.2.2.1 bt242.2.2.2.2.2.1 bt242.2.2.2.2.2.2).bind fun bt249 => (if t165 = 8 then (if bt172.1 = 0 then (if bt179.1 = 0 then (if bt186.1 = 0 then (if bt193.1 = 0 then (if bt200.1 = 4 then (if bt207.1 = 0 then (if bt214.1 = 7 then (if bt221.1 = 0 then (if bt228.1 = 4 then ((life_Life_State.f bt249.2.1 bt249.2.2.1 bt249.2.2.2.1 bt249.2.2.2.2.1 bt249.2.2.2.2.2.1 bt249.2.2.2.2.2.2).bind fun bt256 => (if bt256.1 = 6 then ((life_Life_Final.f bt256.2.1 bt256.2.2.1 bt256.2.2.2.1 bt256.2.2.2.2.1 bt256.2.2.2.2.2.1 bt256.2.2.2.2.2.2).bind fun bt263 => (if bt263.1 = true then ((life_Life_Epoch.f bt263.2.1 bt263.2.2.1 bt263.2.2.2.1 bt263.2.2.2.2.1 bt263.2.2.2.2.2.1 bt263.2.2.2.2.2.2).bind fun bt270 => (if bt270.1 = 3 then ((life_Life_Stopped.f bt270.2.1 bt270.2.2.1 bt270.2.2.2.1 bt270.2.2.2.2.1 bt270.2.2.2.2.2.1 bt270.2.2.2.2.2.2).bind fun bt277 => (if bt277.1 = 1 then ((life_Life_Missed.f bt277.2.1 bt277.2.2.1 bt277.2.2.2.1 bt277.2.2.2.2.1 bt277.2.2.2.2.2.1 bt277.2.2.2.2.2.2).bind fun bt284 => (some (bt284.1 == 2))) else (some false))) else (some false))) else (some false))) else (some false))) else (some false)) else (some false)) else (some false)) else (some false)) else (some false)) else (some false)) else (some false)) else (some false)) else (some false)) else (some false)))))))))))))) = some true := H
  have A2 := Aside0.mk A20
  clear A20
  replace H := Option.bind_eq_some_iff.mp H
  obtain ⟨⟨t172, t173, t174, t175, t176, t177, t178⟩, A30, H⟩ := H
  replace H : ((life_Life_Start.f k t173 t174 t175 t176 t177 t178).bind fun bt179 => ((life_Life_Stop.f k bt179.2.1 bt179.2.2.1 bt179.2.2.2.1 bt179.2.2.2.2.1 bt179.2.2.2.2.2.1 bt179.2.2.2.2.2.2).bind fun bt186 => ((life_Life_Start.f k bt186.2.1 bt186.2.2.1 bt186.2.2.2.1 bt186.2.2.2.2.1 bt186.2.2.2.2.2.1 bt186.2.2.2.2.2.2).bind fun bt193 => ((life_Life_Stop.f k bt193.2.1 bt193.2.2.1 bt193.2.2.2.1 bt193.2.2.2.2.1 bt193.2.2.2.2.2.1 bt193.2.2.2.2.2.2).bind fun bt200 => ((life_Life_Right.f bt200.2.1 bt200.2.2.1 bt200.2.2.2.1 bt200.2.2.2.2.1 bt200.2.2.2.2.2.1 bt200.2.2.2.2.2.2 2).bind fun bt207 => ((life_Life_Right.f bt207.2.1 bt207.2.2.1 bt207.2.2.2.1 bt207.2.2.2.2.1 bt207.2.2.2.2.2.1 bt207.2.2.2.2.2.2 1).bind fun bt214 => ((life_Life_Miss.f k bt214.2.1 bt214.2.2.1 bt214.2.2.2.1 bt214.2.2.2.2.1 bt214.2.2.2.2.2.1 bt214.2.2.2.2.2.2).bind fun bt221 => ((life_Life_State.f bt221.2.1 bt221.2.2.1 bt221.2.2.2.1 bt221.2.2.2.2.1 bt221.2.2.2.2.2.1 bt221.2.2.2.2.2.2).bind fun bt228 => ((life_Life_Rested.f k bt228.2.1 bt228.2.2.1 bt228.2.2.2.1 bt228.2.2.2.2.1 bt228.2.2.2.2.2.1 bt228.2.2.2.2.2.2).bind fun bt235 => ((life_Life_Start.f k bt235.2.1 bt235.2.2.1 bt235.2.2.2.1 bt235.2.2.2.2.1 bt235.2.2.2.2.2.1 bt235.2.2.2.2.2.2).bind fun bt242 => ((life_Life_Miss.f k bt242.2.1 bt242.2.2.1 bt242.2.2.2.1 bt242.2.2.2.2.1 bt242.2.2.2.2.2.1 bt242.2.2.2.2.2.2).bind fun bt249 => (if t165 = 8 then (if t172 = 0 then (if bt179.1 = 0 then (if bt186.1 = 0 then (if bt193.1 = 0 then (if bt200.1 = 4 then (if bt207.1 = 0 then (if bt214.1 = 7 then (if bt221.1 = 0 then (if bt228.1 = 4 then ((life_Life_State.f bt249.2.1 bt249.2.2.1 bt249.2.2.2.1 bt249.2.2.2.2.1 bt249.2.2.2.2.2.1 bt249.2.2.2.2.2.2).bind fun bt256 => (if bt256.1 = 6 then ((life_Life_Final.f bt256.2.1 bt256.2.2.1 bt256.2.2.2.1 bt256.2.2.2.2.1 bt256.2.2.2.2.2.1 bt256.2.2.2.2.2.2).bind fun bt263 => (if bt263.1 = true then ((life_Life_Epoch.f bt263.2.1 bt263.2.2.1 bt263.2.2.2.1 bt263.2.2.2.2.1 bt263.2.2.2.2.2.1 bt263.2.2.2.2.2.2).bind fun bt270 => (if bt270.1 = 3 then ((life_Life_Stopped.f bt270.2.1 bt270.2.2.1 bt270.2.2.2.1 bt270.2.2.2.2.1 bt270.2.2.2.2.2.1 bt270.2.2.2.2.2.2).bind fun bt277 => (if bt277.1 = 1 then ((life_Life_Missed.f bt277.2.1 bt277.2.2.1 bt277.2.2.2.1 bt277.2.2.2.2.1 bt277.2.2.2.2.2.1 bt277.2.2.2.2.2.2).bind fun bt284 => (some (bt284.1 == 2))) else (some false))) else (some false))) else (some false))) else (some false))) else (some false)) else (some false)) else (some false)) else (some false)) else (some false)) else (some false)) else (some false)) else (some false)) else (some false)) else (some false))))))))))))) = some true := H
  have A3 := Aside0.mk A30
  clear A30
  replace H := Option.bind_eq_some_iff.mp H
  obtain ⟨⟨t179, t180, t181, t182, t183, t184, t185⟩, A40, H⟩ := H
  replace H : ((life_Life_Stop.f k t180 t181 t182 t183 t184 t185).bind fun bt186 => ((life_Life_Start.f k bt186.2.1 bt186.2.2.1 bt186.2.2.2.1 bt186.2.2.2.2.1 bt186.2.2.2.2.2.1 bt186.2.2.2.2.2.2).bind fun bt193 => ((life_Life_Stop.f k bt193.2.1 bt193.2.2.1 bt193.2.2.2.1 bt193.2.2.2.2.1 bt193.2.2.2.2.2.1 bt193.2.2.2.2.2.2).bind fun bt200 => ((life_Life_Right.f bt200.2.1 bt200.2.2.1 bt200.2.2.2.1 bt200.2.2.2.2.1 bt200.2.2.2.2.2.1 bt200.2.2.2.2.2.2 2).bind fun bt207 => ((life_Life_Right.f bt207.2.1 bt207.2.2.1 bt207.2.2.2.1 bt207.2.2.2.2.1 bt207.2.2.2.2.2.1 bt207.2.2.2.2.2.2 1).bind fun bt214 => ((life_Life_Miss.f k bt214.2.1 bt214.2.2.1 bt214.2.2.2.1 bt214.2.2.2.2.1 bt214.2.2.2.2.2.1 bt214.2.2.2.2.2.2).bind fun bt221 => ((life_Life_State.f bt221.2.1 bt221.2.2.1 bt221.2.2.2.1 bt221.2.2.2.2.1 bt221.2.2.2.2.2.1 bt221.2.2.2.2.2.2).bind fun bt228 => ((life_Life_Rested.f k bt228.2.1 bt228.2.2.1 bt228.2.2.2.1 bt228.2.2.2.2.1 bt228.2.2.2.2.2.1 bt228.2.2.2.2.2.2).bind fun bt235 => ((life_Life_Start.f k bt235.2.1 bt235.2.2.1 bt235.2.2.2.1 bt235.2.2.2.2.1 bt235.2.2.2.2.2.1 bt235.2.2.2.2.2.2).bind fun bt242 => ((life_Life_Miss.f k bt242.2.1 bt242.2.2.1 bt242.2.2.2.1 bt242.2.2.2.2.1 bt242.2.2.2.2.2.1 bt242.2.2.2.2.2.2).bind fun bt249 => (if t165 = 8 then (if t172 = 0 then (if t179 = 0 then (if bt186.1 = 0 then (if bt193.1 = 0 then (if bt200.1 = 4 then (if bt207.1 = 0 then (if bt214.1 = 7 then (if bt221.1 = 0 then (if bt228.1 = 4 then ((life_Life_State.f bt249.2.1 bt249.2.2.1 bt249.2.2.2.1 bt249.2.2.2.2.1 bt249.2.2.2.2.2.1 bt249.2.2.2.2.2.2).bind fun bt256 => (if bt256.1 = 6 then ((life_Life_Final.f bt256.2.1 bt256.2.2.1 bt256.2.2.2.1 bt256.2.2.2.2.1 bt256.2.2.2.2.2.1 bt256.2.2.2.2.2.2).bind fun bt263 => (if bt263.1 = true then ((life_Life_Epoch.f bt263.2.1 bt263.2.2.1 bt263.2.2.2.1 bt263.2.2.2.2.1 bt263.2.2.2.2.2.1 bt263.2.2.2.2.2.2).bind fun bt270 => (if bt270.1 = 3 then ((life_Life_Stopped.f bt270.2.1 bt270.2.2.1 bt270.2.2.2.1 bt270.2.2.2.2.1 bt270.2.2.2.2.2.1 bt270.2.2.2.2.2.2).bind fun bt277 => (if bt277.1 = 1 then ((life_Life_Missed.f bt277.2.1 bt277.2.2.1 bt277.2.2.2.1 bt277.2.2.2.2.1 bt277.2.2.2.2.2.1 bt277.2.2.2.2.2.2).bind fun bt284 => (some (bt284.1 == 2))) else (some false))) else (some false))) else (some false))) else (some false))) else (some false)) else (some false)) else (some false)) else (some false)) else (some false)) else (some false)) else (some false)) else (some false)) else (some false)) else (some false)))))))))))) = some true := H
  have A4 := Aside0.mk A40
  clear A40
  replace H := Option.bind_eq_some_iff.mp H
  obtain ⟨⟨t186, t187, t188, t189, t190, t191, t192⟩, A50, H⟩ := H
  replace H : ((life_Life_Start.f k t187 t188 t189 t190 t191 t192).bind fun bt193 => ((life_Life_Stop.f k bt193.2.1 bt193.2.2.1 bt193.2.2.2.1 bt193.2.2.2.2.1 bt193.2.2.2.2.2.1 bt193.2.2.2.2.2.2).bind fun bt200 => ((life_Life_Right.f bt200.2.1 bt200.2.2.1 bt200.2.2.2.1 bt200.2.2.2.2.1 bt200.2.2.2.2.2.1 bt200.2.2.2.2.2.2 2).bind fun bt207 => ((life_Life_Right.f bt207.2.1 bt207.2.2.1 bt207.2.2.2.1 bt207.2.2.2.2.1 bt207.2.2.2.2.2.1 bt207.2.2.2.2.2.2 1).bind fun bt214 => ((life_Life_Miss.f k bt214.2.1 bt214.2.2.1 bt214.2.2.2.1 bt214.2.2.2.2.1 bt214.2.2.2.2.2.1 bt214.2.2.2.2.2.2).bind fun bt221 => ((life_Life_State.f bt221.2.1 bt221.2.2.1 bt221.2.2.2.1 bt221.2.2.2.2.1 bt221.2.2.2.2.2.1 bt221.2.2.2.2.2.2).bind fun bt228 => ((life_Life_Rested.f k bt228.2.1 bt228.2.2.1 bt228.2.2.2.1 bt228.2.2.2.2.1 bt228.2.2.2.2.2.1 bt228.2.2.2.2.2.2).bind fun bt235 => ((life_Life_Start.f k bt235.2.1 bt235.2.2.1 bt235.2.2.2.1 bt235.2.2.2.2.1 bt235.2.2.2.2.2.1 bt235.2.2.2.2.2.2).bind fun bt242 => ((life_Life_Miss.f k bt242.2.1 bt242.2.2.1 bt242.2.2.2.1 bt242.2.2.2.2.1 bt242.2.2.2.2.2.1 bt242.2.2.2.2.2.2).bind fun bt249 => (if t165 = 8 then (if t172 = 0 then (if t179 = 0 then (if t186 = 0 then (if bt193.1 = 0 then (if bt200.1 = 4 then (if bt207.1 = 0 then (if bt214.1 = 7 then (if bt221.1 = 0 then (if bt228.1 = 4 then ((life_Life_State.f bt249.2.1 bt249.2.2.1 bt249.2.2.2.1 bt249.2.2.2.2.1 bt249.2.2.2.2.2.1 bt249.2.2.2.2.2.2).bind fun bt256 => (if bt256.1 = 6 then ((life_Life_Final.f bt256.2.1 bt256.2.2.1 bt256.2.2.2.1 bt256.2.2.2.2.1 bt256.2.2.2.2.2.1 bt256.2.2.2.2.2.2).bind fun bt263 => (if bt263.1 = true then ((life_Life_Epoch.f bt263.2.1 bt263.2.2.1 bt263.2.2.2.1 bt263.2.2.2.2.1 bt263.2.2.2.2.2.1 bt263.2.2.2.2.2.2).bind fun bt270 => (if bt270.1 = 3 then ((life_Life_Stopped.f bt270.2.1 bt270.2.2.1 bt270.2.2.2.1 bt270.2.2.2.2.1 bt270.2.2.2.2.2.1 bt270.2.2.2.2.2.2).bind fun bt277 => (if bt277.1 = 1 then ((life_Life_Missed.f bt277.2.1 bt277.2.2.1 bt277.2.2.2.1 bt277.2.2.2.2.1 bt277.2.2.2.2.2.1 bt277.2.2.2.2.2.2).bind fun bt284 => (some (bt284.1 == 2))) else (some false))) else (some false))) else (some false))) else (some false))) else (some false)) else (some false)) else (some false)) else (some false)) else (some false)) else (some false)) else (some false)) else (some false)) else (some false)) else (some false))))))))))) = some true := H
  have A5 := Aside0.mk A50
  clear A50
  replace H := Option.bind_eq_some_iff.mp H
  obtain ⟨⟨t193, t194, t195, t196, t197, t198, t199⟩, A60, H⟩ := H
  replace H : ((life_Life_Stop.f k t194 t195 t196 t197 t198 t199).bind fun bt200 => ((life_Life_Right.f bt200.2.1 bt200.2.2.1 bt200.2.2.2.1 bt200.2.2.2.2.1 bt200.2.2.2.2.2.1 bt200.2.2.2.2.2.2 2).bind fun bt207 => ((life_Life_Right.f bt207.2.1 bt207.2.2.1 bt207.2.2.2.1 bt207.2.2.2.2.1 bt207.2.2.2.2.2.1 bt207.2.2.2.2.2.2 1).bind fun bt214 => ((life_Life_Miss.f k bt214.2.1 bt214.2.2.1 bt214.2.2.2.1 bt214.2.2.2.2.1 bt214.2.2.2.2.2.1 bt214.2.2.2.2.2.2).bind fun bt221 => ((life_Life_State.f bt221.2.1 bt221.2.2.1 bt221.2.2.2.1 bt221.2.2.2.2.1 bt221.2.2.2.2.2.1 bt221.2.2.2.2.2.2).bind fun bt228 => ((life_Life_Rested.f k bt228.2.1 bt228.2.2.1 bt228.2.2.2.1 bt228.2.2.2.2.1 bt228.2.2.2.2.2.1 bt228.2.2.2.2.2.2).bind fun bt235 => ((life_Life_Start.f k bt235.2.1 bt235.2.2.1 bt235.2.2.2.1 bt235.2.2.2.2.1 bt235.2.2.2.2.2.1 bt235.2.2.2.2.2.2).bind fun bt242 => ((life_Life_Miss.f k bt242.2.1 bt242.2.2.1 bt242.2.2.2.1 bt242.2.2.2.2.1 bt242.2.2.2.2.2.1 bt242.2.2.2.2.2.2).bind fun bt249 => (if t165 = 8 then (if t172 = 0 then (if t179 = 0 then (if t186 = 0 then (if t193 = 0 then (if bt200.1 = 4 then (if bt207.1 = 0 then (if bt214.1 = 7 then (if bt221.1 = 0 then (if bt228.1 = 4 then ((life_Life_State.f bt249.2.1 bt249.2.2.1 bt249.2.2.2.1 bt249.2.2.2.2.1 bt249.2.2.2.2.2.1 bt249.2.2.2.2.2.2).bind fun bt256 => (if bt256.1 = 6 then ((life_Life_Final.f bt256.2.1 bt256.2.2.1 bt256.2.2.2.1 bt256.2.2.2.2.1 bt256.2.2.2.2.2.1 bt256.2.2.2.2.2.2).bind fun bt263 => (if bt263.1 = true then ((life_Life_Epoch.f bt263.2.1 bt263.2.2.1 bt263.2.2.2.1 bt263.2.2.2.2.1 bt263.2.2.2.2.2.1 bt263.2.2.2.2.2.2).bind fun bt270 => (if bt270.1 = 3 then ((life_Life_Stopped.f bt270.2.1 bt270.2.2.1 bt270.2.2.2.1 bt270.2.2.2.2.1 bt270.2.2.2.2.2.1 bt270.2.2.2.2.2.2).bind fun bt277 => (if bt277.1 = 1 then ((life_Life_Missed.f bt277.2.1 bt277.2.2.1 bt277.2.2.2.1 bt277.2.2.2.2.1 bt277.2.2.2.2.2.1 bt277.2.2.2.2.2.2).bind fun bt284 => (some (bt284.1 == 2))) else (some false))) else (some false))) else (some false))) else (some false))) else (some false)) else (some false)) else (some false)) else (some false)) else (some false)) else (some false)) else (some false)) else (some false)) else (some false)) else (some false)))))))))) = some true := H
  have A6 := Aside0.mk A60
  clear A60
  replace H := Option.bind_eq_some_iff.mp H
  obtain ⟨⟨t200, t201, t202, t203, t204, t205, t206⟩, A70, H⟩ := H
  replace H : ((life_Life_Right.f t201 t202 t203 t204 t205 t206 2).bind fun bt207 => ((life_Life_Right.f bt207.2.1 bt207.2.2.1 bt207.2.2.2.1 bt207.2.2.2.2.1 bt207.2.2.2.2.2.1 bt207.2.2.2.2.2.2 1).bind fun bt214 => ((life_Life_Miss.f k bt214.2.1 bt214.2.2.1 bt214.2.2.2.1 bt214.2.2.2.2.1 bt214.2.2.2.2.2.1 bt214.2.2.2.2.2.2).bind fun bt221 => ((life_Life_State.f bt221.2.1 bt221.2.2.1 bt221.2.2.2.1 bt221.2.2.2.2.1 bt221.2.2.2.2.2.1 bt221.2.2.2.2.2.2).bind fun bt228 => ((life_Life_Rested.f k bt228.2.1 bt228.2.2.1 bt228.2.2.2.1 bt228.2.2.2.2.1 bt228.2.2.2.2.2.1 bt228.2.2.2.2.2.2).bind fun bt235 => ((life_Life_Start.f k bt235.2.1 bt235.2.2.1 bt235.2.2.2.1 bt235.2.2.2.2.1 bt235.2.2.2.2.2.1 bt235.2.2.2.2.2.2).bind fun bt242 => ((life_Life_Miss.f k bt242.2.1 bt242.2.2.1 bt242.2.2.2.1 bt242.2.2.2.2.1 bt242.2.2.2.2.2.1 bt242.2.2.2.2.2.2).bind fun bt249 => (if t165 = 8 then (if t172 = 0 then (if t179 = 0 then (if t186 = 0 then (if t193 = 0 then (if t200 = 4 then (if bt207.1 = 0 then (if bt214.1 = 7 then (if bt221.1 = 0 then (if bt228.1 = 4 then ((life_Life_State.f bt249.2.1 bt249.2.2.1 bt249.2.2.2.1 bt249.2.2.2.2.1 bt249.2.2.2.2.2.1 bt249.2.2.2.2.2.2).bind fun bt256 => (if bt256.1 = 6 then ((life_Life_Final.f bt256.2.1 bt256.2.2.1 bt256.2.2.2.1 bt256.2.2.2.2.1 bt256.2.2.2.2.2.1 bt256.2.2.2.2.2.2).bind fun bt263 => (if bt263.1 = true then ((life_Life_Epoch.f bt263.2.1 bt263.2.2.1 bt263.2.2.2.1 bt263.2.2.2.2.1 bt263.2.2.2.2.2.1 bt263.2.2.2.2.2.2).bind fun bt270 => (if bt270.1 = 3 then ((life_Life_Stopped.f bt270.2.1 bt270.2.2.1 bt270.2.2.2.1 bt270.2.2.2.2.1 bt270.2.2.2.2.2.1 bt270.2.2.2.2.2.2).bind fun bt277 => (if bt277.1 = 1 then ((life_Life_Missed.f bt277.2.1 bt277.2.2.1 bt277.2.2.2.1 bt277.2.2.2.2.1 bt277.2.2.2.2.2.1 bt277.2.2.2.2.2.2).bind fun bt284 => (some (bt284.1 == 2))) else (some false))) else (some false))) else (some false))) else (some false))) else (some false)) else (some false)) else (some false)) else (some false)) else (some false)) else (some false)) else (some false)) else (some false)) else (some false)) else (some false))))))))) = some true := H
  have A7 := Aside0.mk A70
  clear A70
  replace H := Option.bind_eq_some_iff.mp H
  obtain ⟨⟨t207, t208, t209, t210, t211, t212, t213⟩, A80, H⟩ := H
  replace H : ((life_Life_Right.f t208 t209 t210 t211 t212 t213 1).bind fun bt214 => ((life_Life_Miss.f k bt214.2.1 bt214.2.2.1 bt214.2.2.2.1 bt214.2.2.2.2.1 bt214.2.2.2.2.2.1 bt214.2.2.2.2.2.2).bind fun bt221 => ((life_Life_State.f bt221.2.1 bt221.2.2.1 bt221.2.2.2.1 bt221.2.2.2.2.1 bt221.2.2.2.2.2.1 bt221.2.2.2.2.2.2).bind fun bt228 => ((life_Life_Rested.f k bt228.2.1 bt228.2.2.1 bt228.2.2.2.1 bt228.2.2.2.2.1 bt228.2.2.2.2.2.1 bt228.2.2.2.2.2.2).bind fun bt235 => ((life_Life_Start.f k bt235.2.1 bt235.2.2.1 bt235.2.2.2.1 bt235.2.2.2.2.1 bt235.2.2.2.2.2.1 bt235.2.2.2.2.2.2).bind fun bt242 => ((life_Life_Miss.f k bt242.2.1 bt242.2.2.1 bt242.2.2.2.1 bt242.2.2.2.2.1 bt242.2.2.2.2.2.1 bt242.2.2.2.2.2.2).bind fun bt249 => (if t165 = 8 then (if t172 = 0 then (if t179 = 0 then (if t186 = 0 then (if t193 = 0 then (if t200 = 4 then (if t207 = 0 then (if bt214.1 = 7 then (if bt221.1 = 0 then (if bt228.1 = 4 then ((life_Life_State.f bt249.2.1 bt249.2.2.1 bt249.2.2.2.1 bt249.2.2.2.2.1 bt249.2.2.2.2.2.1 bt249.2.2.2.2.2.2).bind fun bt256 => (if bt256.1 = 6 then ((life_Life_Final.f bt256.2.1 bt256.2.2.1 bt256.2.2.2.1 bt256.2.2.2.2.1 bt256.2.2.2.2.2.1 bt256.2.2.2.2.2.2).bind fun bt263 => (if bt263.1 = true then ((life_Life_Epoch.f bt263.2.1 bt263.2.2.1 bt263.2.2.2.1 bt263.2.2.2.2.1 bt263.2.2.2.2.2.1 bt263.2.2.2.2.2.2).bind fun bt270 => (if bt270.1 = 3 then ((life_Life_Stopped.f bt270.2.1 bt270.2.2.1 bt270.2.2.2.1 bt270.2.2.2.2.1 bt270.2.2.2.2.2.1 bt270.2.2.2.2.2.2).bind fun bt277 => (if bt277.1 = 1 then ((life_Life_Missed.f bt277.2.1 bt277.2.2.1 bt277.2.2.2.1 bt277.2.2.2.2.1 bt277.2.2.2.2.2.1 bt277.2.2.2.2.2.2).bind fun bt284 => (some (bt284.1 == 2))) else (some false))) else (some false))) else (some false))) else (some false))) else (some false)) else (some false)) else (some false)) else (some false)) else (some false)) else (some false)) else (some false)) else (some false)) else (some false)) else (some false)))))))) = some true := H
  have A8 := Aside0.mk A80
  clear A80
  replace H := Option.bind_eq_some_iff.mp H
  obtain ⟨⟨t214, t215, t216, t217, t218, t219, t220⟩, A90, H⟩ := H
  replace H : ((life_Life_Miss.f k t215 t216 t217 t218 t219 t220).bind fun bt221 => ((life_Life_State.f bt221.2.1 bt221.2.2.1 bt221.2.2.2.1 bt221.2.2.2.2.1 bt221.2.2.2.2.2.1 bt221.2.2.2.2.2.2).bind fun bt228 => ((life_Life_Rested.f k bt228.2.1 bt228.2.2.1 bt228.2.2.2.1 bt228.2.2.2.2.1 bt228.2.2.2.2.2.1 bt228.2.2.2.2.2.2).bind fun bt235 => ((life_Life_Start.f k bt235.2.1 bt235.2.2.1 bt235.2.2.2.1 bt235.2.2.2.2.1 bt235.2.2.2.2.2.1 bt235.2.2.2.2.2.2).bind fun bt242 => ((life_Life_Miss.f k bt242.2.1 bt242.2.2.1 bt242.2.2.2.1 bt242.2.2.2.2.1 bt242.2.2.2.2.2.1 bt242.2.2.2.2.2.2).bind fun bt249 => (if t165 = 8 then (if t172 = 0 then (if t179 = 0 then (if t186 = 0 then (if t193 = 0 then (if t200 = 4 then (if t207 = 0 then (if t214 = 7 then (if bt221.1 = 0 then (if bt228.1 = 4 then ((life_Life_State.f bt249.2.1 bt249.2.2.1 bt249.2.2.2.1 bt249.2.2.2.2.1 bt249.2.2.2.2.2.1 bt249.2.2.2.2.2.2).bind fun bt256 => (if bt256.1 = 6 then ((life_Life_Final.f bt256.2.1 bt256.2.2.1 bt256.2.2.2.1 bt256.2.2.2.2.1 bt256.2.2.2.2.2.1 bt256.2.2.2.2.2.2).bind fun bt263 => (if bt263.1 = true then ((life_Life_Epoch.f bt263.2.1 bt263.2.2.1 bt263.2.2.2.1 bt263.2.2.2.2.1 bt263.2.2.2.2.2.1 bt263.2.2.2.2.2.2).bind fun bt270 => (if bt270.1 = 3 then ((life_Life_Stopped.f bt270.2.1 bt270.2.2.1 bt270.2.2.2.1 bt270.2.2.2.2.1 bt270.2.2.2.2.2.1 bt270.2.2.2.2.2.2).bind fun bt277 => (if bt277.1 = 1 then ((life_Life_Missed.f bt277.2.1 bt277.2.2.1 bt277.2.2.2.1 bt277.2.2.2.2.1 bt277.2.2.2.2.2.1 bt277.2.2.2.2.2.2).bind fun bt284 => (some (bt284.1 == 2))) else (some false))) else (some false))) else (some false))) else (some false))) else (some false)) else (some false)) else (some false)) else (some false)) else (some false)) else (some false)) else (some false)) else (some false)) else (some false)) else (some false))))))) = some true := H
  have A9 := Aside0.mk A90
  clear A90
  replace H := Option.bind_eq_some_iff.mp H
  obtain ⟨⟨t221, t222, t223, t224, t225, t226, t227⟩, A100, H⟩ := H
  replace H : ((life_Life_State.f t222 t223 t224 t225 t226 t227).bind fun bt228 => ((life_Life_Rested.f k bt228.2.1 bt228.2.2.1 bt228.2.2.2.1 bt228.2.2.2.2.1 bt228.2.2.2.2.2.1 bt228.2.2.2.2.2.2).bind fun bt235 => ((life_Life_Start.f k bt235.2.1 bt235.2.2.1 bt235.2.2.2.1 bt235.2.2.2.2.1 bt235.2.2.2.2.2.1 bt235.2.2.2.2.2.2).bind fun bt242 => ((life_Life_Miss.f k bt242.2.1 bt242.2.2.1 bt242.2.2.2.1 bt242.2.2.2.2.1 bt242.2.2.2.2.2.1 bt242.2.2.2.2.2.2).bind fun bt249 => (if t165 = 8 then (if t172 = 0 then (if t179 = 0 then (if t186 = 0 then (if t193 = 0 then (if t200 = 4 then (if t207 = 0 then (if t214 = 7 then (if t221 = 0 then (if bt228.1 = 4 then ((life_Life_State.f bt249.2.1 bt249.2.2.1 bt249.2.2.2.1 bt249.2.2.2.2.1 bt249.2.2.2.2.2.1 bt249.2.2.2.2.2.2).bind fun bt256 => (if bt256.1 = 6 then ((life_Life_Final.f bt256.2.1 bt256.2.2.1 bt256.2.2.2.1 bt256.2.2.2.2.1 bt256.2.2.2.2.2.1 bt256.2.2.2.2.2.2).bind fun bt263 => (if bt263.1 = true then ((life_Life_Epoch.f bt263.2.1 bt263.2.2.1 bt263.2.2.2.1 bt263.2.2.2.2.1 bt263.2.2.2.2.2.1 bt263.2.2.2.2.2.2).bind fun bt270 => (if bt270.1 = 3 then ((life_Life_Stopped.f bt270.2.1 bt270.2.2.1 bt270.2.2.2.1 bt270.2.2.2.2.1 bt270.2.2.2.2.2.1 bt270.2.2.2.2.2.2).bind fun bt277 => (if bt277.1 = 1 then ((life_Life_Missed.f bt277.2.1 bt277.2.2.1 bt277.2.2.2.1 bt277.2.2.2.2.1 bt277.2.2.2.2.2.1 bt277.2.2.2.2.2.2).bind fun bt284 => (some (bt284.1 == 2))) else (some false))) else (some false))) else (some false))) else (some false))) else (some false)) else (some false)) else (some false)) else (some false)) else (some false)) else (some false)) else (some false)) else (some false)) else (some false)) else (some false)))))) = some true := H
  have A10 := Aside0.mk A100
  clear A100
  replace H := Option.bind_eq_some_iff.mp H
  obtain ⟨⟨t228, t229, t230, t231, t232, t233, t234⟩, A110, H⟩ := H
  replace H : ((life_Life_Rested.f k t229 t230 t231 t232 t233 t234).bind fun bt235 => ((life_Life_Start.f k bt235.2.1 bt235.2.2.1 bt235.2.2.2.1 bt235.2.2.2.2.1 bt235.2.2.2.2.2.1 bt235.2.2.2.2.2.2).bind fun bt242 => ((life_Life_Miss.f k bt242.2.1 bt242.2.2.1 bt242.2.2.2.1 bt242.2.2.2.2.1 bt242.2.2.2.2.2.1 bt242.2.2.2.2.2.2).bind fun bt249 => (if t165 = 8 then (if t172 = 0 then (if t179 = 0 then (if t186 = 0 then (if t193 = 0 then (if t200 = 4 then (if t207 = 0 then (if t214 = 7 then (if t221 = 0 then (if t228 = 4 then ((life_Life_State.f bt249.2.1 bt249.2.2.1 bt249.2.2.2.1 bt249.2.2.2.2.1 bt249.2.2.2.2.2.1 bt249.2.2.2.2.2.2).bind fun bt256 => (if bt256.1 = 6 then ((life_Life_Final.f bt256.2.1 bt256.2.2.1 bt256.2.2.2.1 bt256.2.2.2.2.1 bt256.2.2.2.2.2.1 bt256.2.2.2.2.2.2).bind fun bt263 => (if bt263.1 = true then ((life_Life_Epoch.f bt263.2.1 bt263.2.2.1 bt263.2.2.2.1 bt263.2.2.2.2.1 bt263.2.2.2.2.2.1 bt263.2.2.2.2.2.2).bind fun bt270 => (if bt270.1 = 3 then ((life_Life_Stopped.f bt270.2.1 bt270.2.2.1 bt270.2.2.2.1 bt270.2.2.2.2.1 bt270.2.2.2.2.2.1 bt270.2.2.2.2.2.2).bind fun bt277 => (if bt277.1 = 1 then ((life_Life_Missed.f bt277.2.1 bt277.2.2.1 bt277.2.2.2.1 bt277.2.2.2.2.1 bt277.2.2.2.2.2.1 bt277.2.2.2.2.2.2).bind fun bt284 => (some (bt284.1 == 2))) else (some false))) else (some false))) else (some false))) else (some false))) else (some false)) else (some false)) else (some false)) else (some false)) else (some false)) else (some false)) else (some false)) else (some false)) else (some false)) else (some false))))) = some true := H
  have A11 := Aside0.mk A110
  clear A110
  replace H := Option.bind_eq_some_iff.mp H
  obtain ⟨⟨t235, t236, t237, t238, t239, t240, t241⟩, A120, H⟩ := H
  replace H : ((life_Life_Start.f k t236 t237 t238 t239 t240 t241).bind fun bt242 => ((life_Life_Miss.f k bt242.2.1 bt242.2.2.1 bt242.2.2.2.1 bt242.2.2.2.2.1 bt242.2.2.2.2.2.1 bt242.2.2.2.2.2.2).bind fun bt249 => (if t165 = 8 then (if t172 = 0 then (if t179 = 0 then (if t186 = 0 then (if t193 = 0 then (if t200 = 4 then (if t207 = 0 then (if t214 = 7 then (if t221 = 0 then (if t228 = 4 then ((life_Life_State.f bt249.2.1 bt249.2.2.1 bt249.2.2.2.1 bt249.2.2.2.2.1 bt249.2.2.2.2.2.1 bt249.2.2.2.2.2.2).bind fun bt256 => (if bt256.1 = 6 then ((life_Life_Final.f bt256.2.1 bt256.2.2.1 bt256.2.2.2.1 bt256.2.2.2.2.1 bt256.2.2.2.2.2.1 bt256.2.2.2.2.2.2).bind fun bt263 => (if bt263.1 = true then ((life_Life_Epoch.f bt263.2.1 bt263.2.2.1 bt263.2.2.2.1 bt263.2.2.2.2.1 bt263.2.2.2.2.2.1 bt263.2.2.2.2.2.2).bind fun bt270 => (if bt270.1 = 3 then ((life_Life_Stopped.f bt270.2.1 bt270.2.2.1 bt270.2.2.2.1 bt270.2.2.2.2.1 bt270.2.2.2.2.2.1 bt270.2.2.2.2.2.2).bind fun bt277 => (if bt277.1 = 1 then ((life_Life_Missed.f bt277.2.1 bt277.2.2.1 bt277.2.2.2.1 bt277.2.2.2.2.1 bt277.2.2.2.2.2.1 bt277.2.2.2.2.2.2).bind fun bt284 => (some (bt284.1 == 2))) else (some false))) else (some false))) else (some false))) else (some false))) else (some false)) else (some false)) else (some false)) else (some false)) else (some false)) else (some false)) else (some false)) else (some false)) else (some false)) else (some false)))) = some true := H
  have A12 := Aside0.mk A120
  clear A120
  replace H := Option.bind_eq_some_iff.mp H
  obtain ⟨⟨t242, t243, t244, t245, t246, t247, t248⟩, A130, H⟩ := H
  replace H : ((life_Life_Miss.f k t243 t244 t245 t246 t247 t248).bind fun bt249 => (if t165 = 8 then (if t172 = 0 then (if t179 = 0 then (if t186 = 0 then (if t193 = 0 then (if t200 = 4 then (if t207 = 0 then (if t214 = 7 then (if t221 = 0 then (if t228 = 4 then ((life_Life_State.f bt249.2.1 bt249.2.2.1 bt249.2.2.2.1 bt249.2.2.2.2.1 bt249.2.2.2.2.2.1 bt249.2.2.2.2.2.2).bind fun bt256 => (if bt256.1 = 6 then ((life_Life_Final.f bt256.2.1 bt256.2.2.1 bt256.2.2.2.1 bt256.2.2.2.2.1 bt256.2.2.2.2.2.1 bt256.2.2.2.2.2.2).bind fun bt263 => (if bt263.1 = true then ((life_Life_Epoch.f bt263.2.1 bt263.2.2.1 bt263.2.2.2.1 bt263.2.2.2.2.1 bt263.2.2.2.2.2.1 bt263.2.2.2.2.2.2).bind fun bt270 => (if bt270.1 = 3 then ((life_Life_Stopped.f bt270.2.1 bt270.2.2.1 bt270.2.2.2.1 bt270.2.2.2.2.1 bt270.2.2.2.2.2.1 bt270.2.2.2.2.2.2).bind fun bt277 => (if bt277.1 = 1 then ((life_Life_Missed.f bt277.2.1 bt277.2.2.1 bt277.2.2.2.1 bt277.2.2.2.2.1 bt277.2.2.2.2.2.1 bt277.2.2.2.2.2.2).bind fun bt284 => (some (bt284.1 == 2))) else (some false))) else (some false))) else (some false))) else (some false))) else (some false)) else (some false)) else (some false)) else (some false)) else (some false)) else (some false)) else (some false)) else (some false)) else (some false)) else (some false))) = some true := H
  have A13 := Aside0.mk A130
  clear A130
  replace H := Option.bind_eq_some_iff.mp H
  obtain ⟨⟨t249, t250, t251, t252, t253, t254, t255⟩, A140, H⟩ := H
  replace H : (if t165 = 8 then (if t172 = 0 then (if t179 = 0 then (if t186 = 0 then (if t193 = 0 then (if t200 = 4 then (if t207 = 0 then (if t214 = 7 then (if t221 = 0 then (if t228 = 4 then ((life_Life_State.f t250 t251 t252 t253 t254 t255).bind fun bt256 => (if bt256.1 = 6 then ((life_Life_Final.f bt256.2.1 bt256.2.2.1 bt256.2.2.2.1 bt256.2.2.2.2.1 bt256.2.2.2.2.2.1 bt256.2.2.2.2.2.2).bind fun bt263 => (if bt263.1 = true then ((life_Life_Epoch.f bt263.2.1 bt263.2.2.1 bt263.2.2.2.1 bt263.2.2.2.2.1 bt263.2.2.2.2.2.1 bt263.2.2.2.2.2.2).bind fun bt270 => (if bt270.1 = 3 then ((life_Life_Stopped.f bt270.2.1 bt270.2.2.1 bt270.2.2.2.1 bt270.2.2.2.2.1 bt270.2.2.2.2.2.1 bt270.2.2.2.2.2.2).bind fun bt277 => (if bt277.1 = 1 then ((life_Life_Missed.f bt277.2.1 bt277.2.2.1 bt277.2.2.2.1 bt277.2.2.2.2.1 bt277.2.2.2.2.2.1 bt277.2.2.2.2.2.2).bind fun bt284 => (some (bt284.1 == 2))) else (some false))) else (some false))) else (some false))) else (some false))) else (some false)) else (some false)) else (some false)) else (some false)) else (some false)) else (some false)) else (some false)) else (some false)) else (some false)) else (some false)) = some true := H
  have A14 := Aside0.mk A140
  clear A140
  by_cases c15 : t165 = 8
  · rw [if_pos c15] at H
    have c15b0 : (t165 == 8) = true := beq_iff_eq.mpr c15
    have c15b1 : (t165 != 8) = false := bne_eq_false_iff_eq.mpr c15
    clear c15
    by_cases c16 : t172 = 0
    · rw [if_pos c16] at H
      have c16b0 : (t172 == 0) = true := beq_iff_eq.mpr c16
      have c16b1 : (t172 != 0) = false := bne_eq_false_iff_eq.mpr c16
      clear c16
      by_cases c17 : t179 = 0
      · rw [if_pos c17] at H
        have c17b0 : (t179 == 0) = true := beq_iff_eq.mpr c17
        have c17b1 : (t179 != 0) = false := bne_eq_false_iff_eq.mpr c17
        clear c17
        by_cases c18 : t186 = 0
        · rw [if_pos c18] at H
          have c18b0 : (t186 == 0) = true := beq_iff_eq.mpr c18
          have c18b1 : (t186 != 0) = false := bne_eq_false_iff_eq.mpr c18
          clear c18
          by_cases c19 : t193 = 0
          · rw [if_pos c19] at H
            have c19b0 : (t193 == 0) = true := beq_iff_eq.mpr c19
            have c19b1 : (t193 != 0) = false := bne_eq_false_iff_eq.mpr c19
            clear c19
            by_cases c20 : t200 = 4
            · rw [if_pos c20] at H
              have c20b0 : (t200 == 4) = true := beq_iff_eq.mpr c20
              have c20b1 : (t200 != 4) = false := bne_eq_false_iff_eq.mpr c20
              clear c20
              by_cases c21 : t207 = 0
              · rw [if_pos c21] at H
                have c21b0 : (t207 == 0) = true := beq_iff_eq.mpr c21
                have c21b1 : (t207 != 0) = false := bne_eq_false_iff_eq.mpr c21
                clear c21
                by_cases c22 : t214 = 7
                · rw [if_pos c22] at H
                  have c22b0 : (t214 == 7) = true := beq_iff_eq.mpr c22
                  have c22b1 : (t214 != 7) = false := bne_eq_false_iff_eq.mpr c22
                  clear c22
                  by_cases c23 : t221 = 0
                  · rw [if_pos c23] at H
                    have c23b0 : (t221 == 0) = true := beq_iff_eq.mpr c23
                    have c23b1 : (t221 != 0) = false := bne_eq_false_iff_eq.mpr c23
                    clear c23
                    by_cases c24 : t228 = 4
                    · rw [if_pos c24] at H
                      have c24b0 : (t228 == 4) = true := beq_iff_eq.mpr c24
                      have c24b1 : (t228 != 4) = false := bne_eq_false_iff_eq.mpr c24
                      clear c24
                      replace H := Option.bind_eq_some_iff.mp H
                      obtain ⟨⟨t256, t257, t258, t259, t260, t261, t262⟩, A250, H⟩ := H
                      replace H : (if t256 = 6 then ((life_Life_Final.f t257 t258 t259 t260 t261 t262).bind fun bt263 => (if bt263.1 = true then ((life_Life_Epoch.f bt263.2.1 bt263.2.2.1 bt263.2.2.2.1 bt263.2.2.2.2.1 bt263.2.2.2.2.2.1 bt263.2.2.2.2.2.2).bind fun bt270 => (if bt270.1 = 3 then ((life_Life_Stopped.f bt270.2.1 bt270.2.2.1 bt270.2.2.2.1 bt270.2.2.2.2.1 bt270.2.2.2.2.2.1 bt270.2.2.2.2.2.2).bind fun bt277 => (if bt277.1 = 1 then ((life_Life_Missed.f bt277.2.1 bt277.2.2.1 bt277.2.2.2.1 bt277.2.2.2.2.1 bt277.2.2.2.2.2.1 bt277.2.2.2.2.2.2).bind fun bt284 => (some (bt284.1 == 2))) else (some false))) else (some false))) else (some false))) else (some false)) = some true := H
                      have A25 := Aside0.mk A250
                      clear A250
                      by_cases c26 : t256 = 6
                      · rw [if_pos c26] at H
                        have c26b0 : (t256 == 6) = true := beq_iff_eq.mpr c26
                        have c26b1 : (t256 != 6) = false := bne_eq_false_iff_eq.mpr c26
                        clear c26
                        replace H := Option.bind_eq_some_iff.mp H
                        obtain ⟨⟨t263, t264, t265, t266, t267, t268, t269⟩, A270, H⟩ := H
                        replace H : (if t263 = true then ((life_Life_Epoch.f t264 t265 t266 t267 t268 t269).bind fun bt270 => (if bt270.1 = 3 then ((life_Life_Stopped.f bt270.2.1 bt270.2.2.1 bt270.2.2.2.1 bt270.2.2.2.2.1 bt270.2.2.2.2.2.1 bt270.2.2.2.2.2.2).bind fun bt277 => (if bt277.1 = 1 then ((life_Life_Missed.f bt277.2.1 bt277.2.2.1 bt277.2.2.2.1 bt277.2.2.2.2.1 bt277.2.2.2.2.2.1 bt277.2.2.2.2.2.2).bind fun bt284 => (some (bt284.1 == 2))) else (some false))) else (some false))) else (some false)) = some true := H
                        have A27 := Aside0.mk A270
                        clear A270
                        by_cases c28 : t263 = true
                        · subst c28
                          have H1 : ((life_Life_Epoch.f t264 t265 t266 t267 t268 t269).bind fun bt270 => (if bt270.1 = 3 then ((life_Life_Stopped.f bt270.2.1 bt270.2.2.1 bt270.2.2.2.1 bt270.2.2.2.2.1 bt270.2.2.2.2.2.1 bt270.2.2.2.2.2.2).bind fun bt277 => (if bt277.1 = 1 then ((life_Life_Missed.f bt277.2.1 bt277.2.2.1 bt277.2.2.2.1 bt277.2.2.2.2.1 bt277.2.2.2.2.2.1 bt277.2.2.2.2.2.2).bind fun bt284 => (some (bt284.1 == 2))) else (some false))) else (some false))) = some true := by rw [if_pos rfl] at H; exact H
                          clear H
                          have H := H1
                          clear H1
                          replace H := Option.bind_eq_some_iff.mp H
                          obtain ⟨⟨t270, t271, t272, t273, t274, t275, t276⟩, A290, H⟩ := H
                          replace H : (if t270 = 3 then ((life_Life_Stopped.f t271 t272 t273 t274 t275 t276).bind fun bt277 => (if bt277.1 = 1 then ((life_Life_Missed.f bt277.2.1 bt277.2.2.1 bt277.2.2.2.1 bt277.2.2.2.2.1 bt277.2.2.2.2.2.1 bt277.2.2.2.2.2.2).bind fun bt284 => (some (bt284.1 == 2))) else (some false))) else (some false)) = some true := H
                          have A29 := Aside0.mk A290
                          clear A290
                          by_cases c30 : t270 = 3
                          · rw [if_pos c30] at H
                            have c30b0 : (t270 == 3) = true := beq_iff_eq.mpr c30
                            have c30b1 : (t270 != 3) = false := bne_eq_false_iff_eq.mpr c30
                            clear c30
                            replace H := Option.bind_eq_some_iff.mp H
                            obtain ⟨⟨t277, t278, t279, t280, t281, t282, t283⟩, A310, H⟩ := H
                            replace H : (if t277 = 1 then ((life_Life_Missed.f t278 t279 t280 t281 t282 t283).bind fun bt284 => (some (bt284.1 == 2))) else (some false)) = some true := H
                            have A31 := Aside0.mk A310
                            clear A310
                            by_cases c32 : t277 = 1
                            · rw [if_pos c32] at H
                              have c32b0 : (t277 == 1) = true := beq_iff_eq.mpr c32
                              have c32b1 : (t277 != 1) = false := bne_eq_false_iff_eq.mpr c32
                              clear c32
                              replace H := Option.bind_eq_some_iff.mp H
                              obtain ⟨⟨t284, t285, t286, t287, t288, t289, t290⟩, A330, H⟩ := H
                              replace H : (some (t284 == 2)) = some true := H
                              have A33 := Aside0.mk A330
                              clear A330
                              have HT_ := Option.some.inj H
                              clear H
                              go_enter Try.func15, Try.ntmps15
                              go_wp2_with (first | ((with_reducible refine gate_callee (f := 16) rfl ?_); refine goesL_ (some 12) rfl rfl Try.func16 (by kernel_rfl) rfl #[.int .i64 2, .int .i64 1] rfl (by (try simp only [List.map_toArray, List.map_cons, List.map_nil]); first | done | rfl | (simp only [List.length_drop, List.length_take]; rfl)) ?_; (with_reducible refine (life_New.calls 2 1 t158 t159 t160 t161 t162 t163 w _ ?side1 A1.out).mono ?_); (case side1 => repeat (first | (with_reducible first | exact HB.out | apply below_alloc | apply pw_below_drewN | apply below_drew1) | exact HB.out)); rintro e w34 ⟨g164, rfl, hi, hb, hb2⟩; refine ⟨_, rfl, ?_⟩; have n0_ := Aside0.mk (hb); have n1_ := Aside0.mk (hi); clear HB; have HB := n0_; have HI164 := n1_; clear n0_ n1_; (try clear hb); (try clear hb2); (try clear hk); (try clear hi)) | ((with_reducible refine gate_callee (f := 18) rfl ?_); refine goesL_ (some 16) rfl rfl Try.func18 (by kernel_rfl) rfl #[.pointer (some ⟨g164, 0, none⟩)] rfl (by (try simp only [List.map_toArray, List.map_cons, List.map_nil]); first | done | rfl | (simp only [List.length_drop, List.length_take]; rfl)) ?_; (with_reducible refine (life_Life_Start.calls k g164 t158 t159 t160 t161 t162 t163 t165 t166 t167 t168 t169 t170 t171 w _ ?side1 ?side2 A2.out).mono ?_); (case side1 => repeat (first | (with_reducible first | exact HI164.out | apply IsS62.alloc | apply IsS62.drewN | apply IsS62.drew | apply IsS62.set_0 | apply IsS62.set_1 | apply IsS62.set_2 | apply IsS62.set_3 | apply IsS62.set_4 | apply IsS62.set_5) | exact HI164.out)); (case side2 => repeat (first | (with_reducible first | exact HB.out | apply below_alloc | apply pw_below_drewN | apply below_drew1 | refine below_set ?_ (IsS62.ge HI164.out)) | exact HB.out)); rintro e w35 ⟨rfl, hi, hb, hk⟩; refine ⟨_, rfl, ?_⟩; have n0_ := Aside0.mk (hb); have n1_ := Aside0.mk (hi); clear HB; clear HI164; have HB := n0_; have HI164 := n1_; clear n0_ n1_; (try clear hb); (try clear hb2); (try clear hk); (try clear hi)) | ((with_reducible refine gate_callee (f := 17) rfl ?_); refine goesL_ (some 18) rfl rfl Try.func17 (by kernel_rfl) rfl #[.pointer (some ⟨g164, 0, none⟩)] rfl (by (try simp only [List.map_toArray, List.map_cons, List.map_nil]); first | done | rfl | (simp only [List.length_drop, List.length_take]; rfl)) ?_; (with_reducible refine (life_Life_Want.calls k g164 t166 t167 t168 t169 t170 t171 t172 t173 t174 t175 t176 t177 t178 w _ ?side1 ?side2 A3.out).mono ?_); (case side1 => repeat (first | (with_reducible first | exact HI164.out | apply IsS62.alloc | apply IsS62.drewN | apply IsS62.drew | apply IsS62.set_0 | apply IsS62.set_1 | apply IsS62.set_2 | apply IsS62.set_3 | apply IsS62.set_4 | apply IsS62.set_5) | exact HI164.out)); (case side2 => repeat (first | (with_reducible first | exact HB.out | apply below_alloc | apply pw_below_drewN | apply below_drew1 | refine below_set ?_ (IsS62.ge HI164.out)) | exact HB.out)); rintro e w36 ⟨rfl, hi, hb, hk⟩; refine ⟨_, rfl, ?_⟩; have n0_ := Aside0.mk (hb); have n1_ := Aside0.mk (hi); clear HB; clear HI164; have HB := n0_; have HI164 := n1_; clear n0_ n1_; (try clear hb); (try clear hb2); (try clear hk); (try clear hi)) | ((with_reducible refine gate_callee (f := 18) rfl ?_); refine goesL_ (some 20) rfl rfl Try.func18 (by kernel_rfl) rfl #[.pointer (some ⟨g164, 0, none⟩)] rfl (by (try simp only [List.map_toArray, List.map_cons, List.map_nil]); first | done | rfl | (simp only [List.length_drop, List.length_take]; rfl)) ?_; (with_reducible refine (life_Life_Start.calls k g164 t173 t174 t175 t176 t177 t178 t179 t180 t181 t182 t183 t184 t185 w _ ?side1 ?side2 A4.out).mono ?_); (case side1 => repeat (first | (with_reducible first | exact HI164.out | apply IsS62.alloc | apply IsS62.drewN | apply IsS62.drew | apply IsS62.set_0 | apply IsS62.set_1 | apply IsS62.set_2 | apply IsS62.set_3 | apply IsS62.set_4 | apply IsS62.set_5) | exact HI164.out)); (case side2 => repeat (first | (with_reducible first | exact HB.out | apply below_alloc | apply pw_below_drewN | apply below_drew1 | refine below_set ?_ (IsS62.ge HI164.out)) | exact HB.out)); rintro e w37 ⟨rfl, hi, hb, hk⟩; refine ⟨_, rfl, ?_⟩; have n0_ := Aside0.mk (hb); have n1_ := Aside0.mk (hi); clear HB; clear HI164; have HB := n0_; have HI164 := n1_; clear n0_ n1_; (try clear hb); (try clear hb2); (try clear hk); (try clear hi)) | ((with_reducible refine gate_callee (f := 19) rfl ?_); refine goesL_ (some 22) rfl rfl Try.func19 (by kernel_rfl) rfl #[.pointer (some ⟨g164, 0, none⟩)] rfl (by (try simp only [List.map_toArray, List.map_cons, List.map_nil]); first | done | rfl | (simp only [List.length_drop, List.length_take]; rfl)) ?_; (with_reducible refine (life_Life_Stop.calls k g164 t180 t181 t182 t183 t184 t185 t186 t187 t188 t189 t190 t191 t192 w _ ?side1 ?side2 A5.out).mono ?_); (case side1 => repeat (first | (with_reducible first | exact HI164.out | apply IsS62.alloc | apply IsS62.drewN | apply IsS62.drew | apply IsS62.set_0 | apply IsS62.set_1 | apply IsS62.set_2 | apply IsS62.set_3 | apply IsS62.set_4 | apply IsS62.set_5) | exact HI164.out)); (case side2 => repeat (first | (with_reducible first | exact HB.out | apply below_alloc | apply pw_below_drewN | apply below_drew1 | refine below_set ?_ (IsS62.ge HI164.out)) | exact HB.out)); rintro e w38 ⟨rfl, hi, hb, hk⟩; refine ⟨_, rfl, ?_⟩; have n0_ := Aside0.mk (hb); have n1_ := Aside0.mk (hi); clear HB; clear HI164; have HB := n0_; have HI164 := n1_; clear n0_ n1_; (try clear hb); (try clear hb2); (try clear hk); (try clear hi)) | ((with_reducible refine gate_callee (f := 18) rfl ?_); refine goesL_ (some 24) rfl rfl Try.func18 (by kernel_rfl) rfl #[.pointer (some ⟨g164, 0, none⟩)] rfl (by (try simp only [List.map_toArray, List.map_cons, List.map_nil]); first | done | rfl | (simp only [List.length_drop, List.length_take]; rfl)) ?_; (with_reducible refine (life_Life_Start.calls k g164 t187 t188 t189 t190 t191 t192 t193 t194 t195 t196 t197 t198 t199 w _ ?side1 ?side2 A6.out).mono ?_); (case side1 => repeat (first | (with_reducible first | exact HI164.out | apply IsS62.alloc | apply IsS62.drewN | apply IsS62.drew | apply IsS62.set_0 | apply IsS62.set_1 | apply IsS62.set_2 | apply IsS62.set_3 | apply IsS62.set_4 | apply IsS62.set_5) | exact HI164.out)); (case side2 => repeat (first | (with_reducible first | exact HB.out | apply below_alloc | apply pw_below_drewN | apply below_drew1 | refine below_set ?_ (IsS62.ge HI164.out)) | exact HB.out)); rintro e w39 ⟨rfl, hi, hb, hk⟩; refine ⟨_, rfl, ?_⟩; have n0_ := Aside0.mk (hb); have n1_ := Aside0.mk (hi); clear HB; clear HI164; have HB := n0_; have HI164 := n1_; clear n0_ n1_; (try clear hb); (try clear hb2); (try clear hk); (try clear hi)) | ((with_reducible refine gate_callee (f := 19) rfl ?_); refine goesL_ (some 26) rfl rfl Try.func19 (by kernel_rfl) rfl #[.pointer (some ⟨g164, 0, none⟩)] rfl (by (try simp only [List.map_toArray, List.map_cons, List.map_nil]); first | done | rfl | (simp only [List.length_drop, List.length_take]; rfl)) ?_; (with_reducible refine (life_Life_Stop.calls k g164 t194 t195 t196 t197 t198 t199 t200 t201 t202 t203 t204 t205 t206 w _ ?side1 ?side2 A7.out).mono ?_); (case side1 => repeat (first | (with_reducible first | exact HI164.out | apply IsS62.alloc | apply IsS62.drewN | apply IsS62.drew | apply IsS62.set_0 | apply IsS62.set_1 | apply IsS62.set_2 | apply IsS62.set_3 | apply IsS62.set_4 | apply IsS62.set_5) | exact HI164.out)); (case side2 => repeat (first | (with_reducible first | exact HB.out | apply below_alloc | apply pw_below_drewN | apply below_drew1 | refine below_set ?_ (IsS62.ge HI164.out)) | exact HB.out)); rintro e w40 ⟨rfl, hi, hb, hk⟩; refine ⟨_, rfl, ?_⟩; have n0_ := Aside0.mk (hb); have n1_ := Aside0.mk (hi); clear HB; clear HI164; have HB := n0_; have HI164 := n1_; clear n0_ n1_; (try clear hb); (try clear hb2); (try clear hk); (try clear hi)) | ((with_reducible refine gate_callee (f := 43) rfl ?_); refine goesL_ (some 28) rfl rfl Try.func43 (by kernel_rfl) rfl #[.pointer (some ⟨g164, 0, none⟩), .int .i64 2] rfl (by (try simp only [List.map_toArray, List.map_cons, List.map_nil]); first | done | rfl | (simp only [List.length_drop, List.length_take]; rfl)) ?_; (with_reducible refine (life_Life_Right.calls g164 t201 t202 t203 t204 t205 t206 2 t207 t208 t209 t210 t211 t212 t213 w _ ?side1 ?side2 A8.out).mono ?_); (case side1 => repeat (first | (with_reducible first | exact HI164.out | apply IsS62.alloc | apply IsS62.drewN | apply IsS62.drew | apply IsS62.set_0 | apply IsS62.set_1 | apply IsS62.set_2 | apply IsS62.set_3 | apply IsS62.set_4 | apply IsS62.set_5) | exact HI164.out)); (case side2 => repeat (first | (with_reducible first | exact HB.out | apply below_alloc | apply pw_below_drewN | apply below_drew1 | refine below_set ?_ (IsS62.ge HI164.out)) | exact HB.out)); rintro e w41 ⟨rfl, hi, hb, hk⟩; refine ⟨_, rfl, ?_⟩; have n0_ := Aside0.mk (hb); have n1_ := Aside0.mk (hi); clear HB; clear HI164; have HB := n0_; have HI164 := n1_; clear n0_ n1_; (try clear hb); (try clear hb2); (try clear hk); (try clear hi)) | ((with_reducible refine gate_callee (f := 43) rfl ?_); refine goesL_ (some 30) rfl rfl Try.func43 (by kernel_rfl) rfl #[.pointer (some ⟨g164, 0, none⟩), .int .i64 1] rfl (by (try simp only [List.map_toArray, List.map_cons, List.map_nil]); first | done | rfl | (simp only [List.length_drop, List.length_take]; rfl)) ?_; (with_reducible refine (life_Life_Right.calls g164 t208 t209 t210 t211 t212 t213 1 t214 t215 t216 t217 t218 t219 t220 w _ ?side1 ?side2 A9.out).mono ?_); (case side1 => repeat (first | (with_reducible first | exact HI164.out | apply IsS62.alloc | apply IsS62.drewN | apply IsS62.drew | apply IsS62.set_0 | apply IsS62.set_1 | apply IsS62.set_2 | apply IsS62.set_3 | apply IsS62.set_4 | apply IsS62.set_5) | exact HI164.out)); (case side2 => repeat (first | (with_reducible first | exact HB.out | apply below_alloc | apply pw_below_drewN | apply below_drew1 | refine below_set ?_ (IsS62.ge HI164.out)) | exact HB.out)); rintro e w42 ⟨rfl, hi, hb, hk⟩; refine ⟨_, rfl, ?_⟩; have n0_ := Aside0.mk (hb); have n1_ := Aside0.mk (hi); clear HB; clear HI164; have HB := n0_; have HI164 := n1_; clear n0_ n1_; (try clear hb); (try clear hb2); (try clear hk); (try clear hi)) | ((with_reducible refine gate_callee (f := 45) rfl ?_); refine goesL_ (some 32) rfl rfl Try.func45 (by kernel_rfl) rfl #[.pointer (some ⟨g164, 0, none⟩)] rfl (by (try simp only [List.map_toArray, List.map_cons, List.map_nil]); first | done | rfl | (simp only [List.length_drop, List.length_take]; rfl)) ?_; (with_reducible refine (life_Life_Miss.calls k g164 t215 t216 t217 t218 t219 t220 t221 t222 t223 t224 t225 t226 t227 w _ ?side1 ?side2 A10.out).mono ?_); (case side1 => repeat (first | (with_reducible first | exact HI164.out | apply IsS62.alloc | apply IsS62.drewN | apply IsS62.drew | apply IsS62.set_0 | apply IsS62.set_1 | apply IsS62.set_2 | apply IsS62.set_3 | apply IsS62.set_4 | apply IsS62.set_5) | exact HI164.out)); (case side2 => repeat (first | (with_reducible first | exact HB.out | apply below_alloc | apply pw_below_drewN | apply below_drew1 | refine below_set ?_ (IsS62.ge HI164.out)) | exact HB.out)); rintro e w43 ⟨rfl, hi, hb, hk⟩; refine ⟨_, rfl, ?_⟩; have n0_ := Aside0.mk (hb); have n1_ := Aside0.mk (hi); clear HB; clear HI164; have HB := n0_; have HI164 := n1_; clear n0_ n1_; (try clear hb); (try clear hb2); (try clear hk); (try clear hi)) | ((with_reducible refine gate_callee (f := 20) rfl ?_); refine goesL_ (some 34) rfl rfl Try.func20 (by kernel_rfl) rfl #[.pointer (some ⟨g164, 0, none⟩)] rfl (by (try simp only [List.map_toArray, List.map_cons, List.map_nil]); first | done | rfl | (simp only [List.length_drop, List.length_take]; rfl)) ?_; (with_reducible refine (life_Life_State.calls g164 t222 t223 t224 t225 t226 t227 t228 t229 t230 t231 t232 t233 t234 w _ ?side1 ?side2 A11.out).mono ?_); (case side1 => repeat (first | (with_reducible first | exact HI164.out | apply IsS62.alloc | apply IsS62.drewN | apply IsS62.drew | apply IsS62.set_0 | apply IsS62.set_1 | apply IsS62.set_2 | apply IsS62.set_3 | apply IsS62.set_4 | apply IsS62.set_5) | exact HI164.out)); (case side2 => repeat (first | (with_reducible first | exact HB.out | apply below_alloc | apply pw_below_drewN | apply below_drew1 | refine below_set ?_ (IsS62.ge HI164.out)) | exact HB.out)); rintro e w44 ⟨rfl, hi, hb, hk⟩; refine ⟨_, rfl, ?_⟩; have n0_ := Aside0.mk (hb); have n1_ := Aside0.mk (hi); clear HB; clear HI164; have HB := n0_; have HI164 := n1_; clear n0_ n1_; (try clear hb); (try clear hb2); (try clear hk); (try clear hi)) | ((with_reducible refine gate_callee (f := 46) rfl ?_); refine goesL_ (some 36) rfl rfl Try.func46 (by kernel_rfl) rfl #[.pointer (some ⟨g164, 0, none⟩)] rfl (by (try simp only [List.map_toArray, List.map_cons, List.map_nil]); first | done | rfl | (simp only [List.length_drop, List.length_take]; rfl)) ?_; (with_reducible refine (life_Life_Rested.calls k g164 t229 t230 t231 t232 t233 t234 t235 t236 t237 t238 t239 t240 t241 w _ ?side1 ?side2 A12.out).mono ?_); (case side1 => repeat (first | (with_reducible first | exact HI164.out | apply IsS62.alloc | apply IsS62.drewN | apply IsS62.drew | apply IsS62.set_0 | apply IsS62.set_1 | apply IsS62.set_2 | apply IsS62.set_3 | apply IsS62.set_4 | apply IsS62.set_5) | exact HI164.out)); (case side2 => repeat (first | (with_reducible first | exact HB.out | apply below_alloc | apply pw_below_drewN | apply below_drew1 | refine below_set ?_ (IsS62.ge HI164.out)) | exact HB.out)); rintro e w45 ⟨rfl, hi, hb, hk⟩; refine ⟨_, rfl, ?_⟩; have n0_ := Aside0.mk (hb); have n1_ := Aside0.mk (hi); clear HB; clear HI164; have HB := n0_; have HI164 := n1_; clear n0_ n1_; (try clear hb); (try clear hb2); (try clear hk); (try clear hi)) | ((with_reducible refine gate_callee (f := 18) rfl ?_); refine goesL_ (some 38) rfl rfl Try.func18 (by kernel_rfl) rfl #[.pointer (some ⟨g164, 0, none⟩)] rfl (by (try simp only [List.map_toArray, List.map_cons, List.map_nil]); first | done | rfl | (simp only [List.length_drop, List.length_take]; rfl)) ?_; (with_reducible refine (life_Life_Start.calls k g164 t236 t237 t238 t239 t240 t241 t242 t243 t244 t245 t246 t247 t248 w _ ?side1 ?side2 A13.out).mono ?_); (case side1 => repeat (first | (with_reducible first | exact HI164.out | apply IsS62.alloc | apply IsS62.drewN | apply IsS62.drew | apply IsS62.set_0 | apply IsS62.set_1 | apply IsS62.set_2 | apply IsS62.set_3 | apply IsS62.set_4 | apply IsS62.set_5) | exact HI164.out)); (case side2 => repeat (first | (with_reducible first | exact HB.out | apply below_alloc | apply pw_below_drewN | apply below_drew1 | refine below_set ?_ (IsS62.ge HI164.out)) | exact HB.out)); rintro e w46 ⟨rfl, hi, hb, hk⟩; refine ⟨_, rfl, ?_⟩; have n0_ := Aside0.mk (hb); have n1_ := Aside0.mk (hi); clear HB; clear HI164; have HB := n0_; have HI164 := n1_; clear n0_ n1_; (try clear hb); (try clear hb2); (try clear hk); (try clear hi)) | ((with_reducible refine gate_callee (f := 45) rfl ?_); refine goesL_ (some 40) rfl rfl Try.func45 (by kernel_rfl) rfl #[.pointer (some ⟨g164, 0, none⟩)] rfl (by (try simp only [List.map_toArray, List.map_cons, List.map_nil]); first | done | rfl | (simp only [List.length_drop, List.length_take]; rfl)) ?_; (with_reducible refine (life_Life_Miss.calls k g164 t243 t244 t245 t246 t247 t248 t249 t250 t251 t252 t253 t254 t255 w _ ?side1 ?side2 A14.out).mono ?_); (case side1 => repeat (first | (with_reducible first | exact HI164.out | apply IsS62.alloc | apply IsS62.drewN | apply IsS62.drew | apply IsS62.set_0 | apply IsS62.set_1 | apply IsS62.set_2 | apply IsS62.set_3 | apply IsS62.set_4 | apply IsS62.set_5) | exact HI164.out)); (case side2 => repeat (first | (with_reducible first | exact HB.out | apply below_alloc | apply pw_below_drewN | apply below_drew1 | refine below_set ?_ (IsS62.ge HI164.out)) | exact HB.out)); rintro e w47 ⟨rfl, hi, hb, hk⟩; refine ⟨_, rfl, ?_⟩; have n0_ := Aside0.mk (hb); have n1_ := Aside0.mk (hi); clear HB; clear HI164; have HB := n0_; have HI164 := n1_; clear n0_ n1_; (try clear hb); (try clear hb2); (try clear hk); (try clear hi)) | (go_at_call 20; (with_reducible refine (life_Life_State.calls g164 t250 t251 t252 t253 t254 t255 t256 t257 t258 t259 t260 t261 t262 w _ ?side1 ?side2 A25.out).mono ?_); (case side1 => repeat (first | (with_reducible first | exact HI164.out | apply IsS62.alloc | apply IsS62.drewN | apply IsS62.drew | apply IsS62.set_0 | apply IsS62.set_1 | apply IsS62.set_2 | apply IsS62.set_3 | apply IsS62.set_4 | apply IsS62.set_5) | exact HI164.out)); (case side2 => repeat (first | (with_reducible first | exact HB.out | apply below_alloc | apply pw_below_drewN | apply below_drew1 | refine below_set ?_ (IsS62.ge HI164.out)) | exact HB.out)); rintro e w48 ⟨rfl, hi, hb, hk⟩; have n0_ := Aside0.mk (hb); have n1_ := Aside0.mk (hi); clear HB; clear HI164; have HB := n0_; have HI164 := n1_; clear n0_ n1_; (try clear hb); (try clear hb2); (try clear hk); (try clear hi)) | (go_at_call 42; (with_reducible refine (life_Life_Final.calls g164 t257 t258 t259 t260 t261 t262 true t264 t265 t266 t267 t268 t269 w _ ?side1 ?side2 A27.out).mono ?_); (case side1 => repeat (first | (with_reducible first | exact HI164.out | apply IsS62.alloc | apply IsS62.drewN | apply IsS62.drew | apply IsS62.set_0 | apply IsS62.set_1 | apply IsS62.set_2 | apply IsS62.set_3 | apply IsS62.set_4 | apply IsS62.set_5) | exact HI164.out)); (case side2 => repeat (first | (with_reducible first | exact HB.out | apply below_alloc | apply pw_below_drewN | apply below_drew1 | refine below_set ?_ (IsS62.ge HI164.out)) | exact HB.out)); rintro e w49 ⟨rfl, hi, hb, hk⟩; have n0_ := Aside0.mk (hb); have n1_ := Aside0.mk (hi); clear HB; clear HI164; have HB := n0_; have HI164 := n1_; clear n0_ n1_; (try clear hb); (try clear hb2); (try clear hk); (try clear hi)) | (go_at_call 23; (with_reducible refine (life_Life_Epoch.calls g164 t264 t265 t266 t267 t268 t269 t270 t271 t272 t273 t274 t275 t276 w _ ?side1 ?side2 A29.out).mono ?_); (case side1 => repeat (first | (with_reducible first | exact HI164.out | apply IsS62.alloc | apply IsS62.drewN | apply IsS62.drew | apply IsS62.set_0 | apply IsS62.set_1 | apply IsS62.set_2 | apply IsS62.set_3 | apply IsS62.set_4 | apply IsS62.set_5) | exact HI164.out)); (case side2 => repeat (first | (with_reducible first | exact HB.out | apply below_alloc | apply pw_below_drewN | apply below_drew1 | refine below_set ?_ (IsS62.ge HI164.out)) | exact HB.out)); rintro e w50 ⟨rfl, hi, hb, hk⟩; have n0_ := Aside0.mk (hb); have n1_ := Aside0.mk (hi); clear HB; clear HI164; have HB := n0_; have HI164 := n1_; clear n0_ n1_; (try clear hb); (try clear hb2); (try clear hk); (try clear hi)) | (go_at_call 21; (with_reducible refine (life_Life_Stopped.calls g164 t271 t272 t273 t274 t275 t276 t277 t278 t279 t280 t281 t282 t283 w _ ?side1 ?side2 A31.out).mono ?_); (case side1 => repeat (first | (with_reducible first | exact HI164.out | apply IsS62.alloc | apply IsS62.drewN | apply IsS62.drew | apply IsS62.set_0 | apply IsS62.set_1 | apply IsS62.set_2 | apply IsS62.set_3 | apply IsS62.set_4 | apply IsS62.set_5) | exact HI164.out)); (case side2 => repeat (first | (with_reducible first | exact HB.out | apply below_alloc | apply pw_below_drewN | apply below_drew1 | refine below_set ?_ (IsS62.ge HI164.out)) | exact HB.out)); rintro e w51 ⟨rfl, hi, hb, hk⟩; have n0_ := Aside0.mk (hb); have n1_ := Aside0.mk (hi); clear HB; clear HI164; have HB := n0_; have HI164 := n1_; clear n0_ n1_; (try clear hb); (try clear hb2); (try clear hk); (try clear hi)) | (go_at_call 22; (with_reducible refine (life_Life_Missed.calls g164 t278 t279 t280 t281 t282 t283 t284 t285 t286 t287 t288 t289 t290 w _ ?side1 ?side2 A33.out).mono ?_); (case side1 => repeat (first | (with_reducible first | exact HI164.out | apply IsS62.alloc | apply IsS62.drewN | apply IsS62.drew | apply IsS62.set_0 | apply IsS62.set_1 | apply IsS62.set_2 | apply IsS62.set_3 | apply IsS62.set_4 | apply IsS62.set_5) | exact HI164.out)); (case side2 => repeat (first | (with_reducible first | exact HB.out | apply below_alloc | apply pw_below_drewN | apply below_drew1 | refine below_set ?_ (IsS62.ge HI164.out)) | exact HB.out)); rintro e w52 ⟨rfl, hi, hb, hk⟩; have n0_ := Aside0.mk (hb); have n1_ := Aside0.mk (hi); clear HB; clear HI164; have HB := n0_; have HI164 := n1_; clear n0_ n1_; (try clear hb); (try clear hb2); (try clear hk); (try clear hi)))
                              go_ret
                              exact ⟨by first | rfl | (simp [errW_none, errW_some] <;> rfl) | (simp [*, errW_none, errW_some] <;> rfl), by repeat (first | (with_reducible first | exact HB.out | apply below_alloc | apply pw_below_drewN | apply below_drew1 | refine below_set ?_ (IsS62.ge HI164.out)) | exact HB.out)⟩
                            · rw [if_neg c32] at H
                              have c32b0 : (t277 == 1) = false := beq_eq_false_iff_ne.mpr c32
                              have c32b1 : (t277 != 1) = true := bne_iff_ne.mpr c32
                              exact absurd H (by simp)
                          · rw [if_neg c30] at H
                            have c30b0 : (t270 == 3) = false := beq_eq_false_iff_ne.mpr c30
                            have c30b1 : (t270 != 3) = true := bne_iff_ne.mpr c30
                            exact absurd H (by simp)
                        · replace c28 := Bool.eq_false_iff.mpr c28
                          subst c28
                          have H1 : (some false) = some true := by rw [if_neg (show ¬ (false = true) by decide)] at H; exact H
                          clear H
                          have H := H1
                          clear H1
                          exact absurd H (by simp)
                      · rw [if_neg c26] at H
                        have c26b0 : (t256 == 6) = false := beq_eq_false_iff_ne.mpr c26
                        have c26b1 : (t256 != 6) = true := bne_iff_ne.mpr c26
                        exact absurd H (by simp)
                    · rw [if_neg c24] at H
                      have c24b0 : (t228 == 4) = false := beq_eq_false_iff_ne.mpr c24
                      have c24b1 : (t228 != 4) = true := bne_iff_ne.mpr c24
                      exact absurd H (by simp)
                  · rw [if_neg c23] at H
                    have c23b0 : (t221 == 0) = false := beq_eq_false_iff_ne.mpr c23
                    have c23b1 : (t221 != 0) = true := bne_iff_ne.mpr c23
                    exact absurd H (by simp)
                · rw [if_neg c22] at H
                  have c22b0 : (t214 == 7) = false := beq_eq_false_iff_ne.mpr c22
                  have c22b1 : (t214 != 7) = true := bne_iff_ne.mpr c22
                  exact absurd H (by simp)
              · rw [if_neg c21] at H
                have c21b0 : (t207 == 0) = false := beq_eq_false_iff_ne.mpr c21
                have c21b1 : (t207 != 0) = true := bne_iff_ne.mpr c21
                exact absurd H (by simp)
            · rw [if_neg c20] at H
              have c20b0 : (t200 == 4) = false := beq_eq_false_iff_ne.mpr c20
              have c20b1 : (t200 != 4) = true := bne_iff_ne.mpr c20
              exact absurd H (by simp)
          · rw [if_neg c19] at H
            have c19b0 : (t193 == 0) = false := beq_eq_false_iff_ne.mpr c19
            have c19b1 : (t193 != 0) = true := bne_iff_ne.mpr c19
            exact absurd H (by simp)
        · rw [if_neg c18] at H
          have c18b0 : (t186 == 0) = false := beq_eq_false_iff_ne.mpr c18
          have c18b1 : (t186 != 0) = true := bne_iff_ne.mpr c18
          exact absurd H (by simp)
      · rw [if_neg c17] at H
        have c17b0 : (t179 == 0) = false := beq_eq_false_iff_ne.mpr c17
        have c17b1 : (t179 != 0) = true := bne_iff_ne.mpr c17
        exact absurd H (by simp)
    · rw [if_neg c16] at H
      have c16b0 : (t172 == 0) = false := beq_eq_false_iff_ne.mpr c16
      have c16b1 : (t172 != 0) = true := bne_iff_ne.mpr c16
      exact absurd H (by simp)
  · rw [if_neg c15] at H
    have c15b0 : (t165 == 8) = false := beq_eq_false_iff_ne.mpr c15
    have c15b1 : (t165 != 8) = true := bne_iff_ne.mpr c15
    exact absurd H (by simp)
theorem millwrightlaw09_shown.true_ (k : Nat) (r : Bool) (h : millwrightlaw09_shown.f k  = some r) : r = true := by
  have h1 := at_rounds millwrightlaw09_shown.mono (Nat.le_max_left k 90) h
  have h2 : millwrightlaw09_shown.f 90 = some true := by decide +kernel
  have h3 := at_rounds millwrightlaw09_shown.mono (Nat.le_max_right k 90) h2
  rw [h1] at h3
  exact Option.some.inj h3
theorem millwrightlaw09_shown.calls (k : Nat) (r : Bool) (w : World) (h : millwrightlaw09_shown.f k  = some r) :
    Calls Try.prog 15 #[] w fun e w' => e = .returned (.bool r) ∧ Below w.heap.size w w' := by
  obtain rfl := millwrightlaw09_shown.true_ k  r h
  exact millwrightlaw09_shown.callsT k  w h

/-! ### millwrightlaw09_LifeStops: function 3 -/
def millwrightlaw09_LifeStops.l0 : Nat → Int → Bool → Int → Int → Int → Int → Int → Int → Int → Option (Bool)
  | 0, _, _, _, _, _, _, _, _, _ => none
  | k + 1, x0, x3, x5, x299000, x299001, x299002, x299003, x299004, x299005 => if x5 < x0 then ((life_Life_Start.f k x299000 x299001 x299002 x299003 x299004 x299005).bind fun bt306 => (if bt306.1 = 0 then ((life_Life_Stop.f k bt306.2.1 bt306.2.2.1 bt306.2.2.2.1 bt306.2.2.2.2.1 bt306.2.2.2.2.2.1 bt306.2.2.2.2.2.2).bind fun bt313 => (if bt313.1 = 0 then ((life_Life_State.f bt313.2.1 bt313.2.2.1 bt313.2.2.2.1 bt313.2.2.2.2.1 bt313.2.2.2.2.2.1 bt313.2.2.2.2.2.2).bind fun bt320 => (if bt320.1 = 1 then ((life_Life_Stopped.f bt320.2.1 bt320.2.2.1 bt320.2.2.2.1 bt320.2.2.2.2.1 bt320.2.2.2.2.2.1 bt320.2.2.2.2.2.2).bind fun bt327 => (if bt327.1 = (wrap64 (x5 + 1)) then (millwrightlaw09_LifeStops.l0 k x0 x3 (wrap64 (x5 + 1)) bt327.2.1 bt327.2.2.1 bt327.2.2.2.1 bt327.2.2.2.2.1 bt327.2.2.2.2.2.1 bt327.2.2.2.2.2.2) else (some false))) else (some false))) else (some false))) else (some false))) else (if x3 = true then ((life_Life_Start.f k x299000 x299001 x299002 x299003 x299004 x299005).bind fun bt334 => (if bt334.1 = 0 then ((life_Life_Stop.f k bt334.2.1 bt334.2.2.1 bt334.2.2.2.1 bt334.2.2.2.2.1 bt334.2.2.2.2.2.1 bt334.2.2.2.2.2.2).bind fun bt341 => (if bt341.1 = 4 then ((life_Life_State.f bt341.2.1 bt341.2.2.1 bt341.2.2.2.1 bt341.2.2.2.2.1 bt341.2.2.2.2.2.1 bt341.2.2.2.2.2.2).bind fun bt348 => (if bt348.1 = 2 then ((life_Life_Stopped.f bt348.2.1 bt348.2.2.1 bt348.2.2.2.1 bt348.2.2.2.2.1 bt348.2.2.2.2.2.1 bt348.2.2.2.2.2.2).bind fun bt355 => (if bt355.1 = x0 then ((life_Life_Missed.f bt355.2.1 bt355.2.2.1 bt355.2.2.2.1 bt355.2.2.2.2.1 bt355.2.2.2.2.2.1 bt355.2.2.2.2.2.2).bind fun bt362 => (if bt362.1 = 0 then ((life_Life_Epoch.f bt362.2.1 bt362.2.2.1 bt362.2.2.2.1 bt362.2.2.2.2.1 bt362.2.2.2.2.2.1 bt362.2.2.2.2.2.2).bind fun bt369 => (some (bt369.1 == (wrap64 (x0 + 1))))) else (some false))) else (some false))) else (some false))) else (some false))) else (some false))) else (some false))
def millwrightlaw09_LifeStops.f (k : Nat) (a0 : Int) : Option (Bool) := (millwrightlaw09_shown.f k).bind fun t291 => ((life_New.f 1 (Int.tmod (Go.bits .and .i64 a0 65535) 51)).bind fun bt292 => ((life_Life_Want.f k bt292.1 bt292.2.1 bt292.2.2.1 bt292.2.2.2.1 bt292.2.2.2.2.1 bt292.2.2.2.2.2).bind fun bt299 => (if bt299.1 = 0 then (millwrightlaw09_LifeStops.l0 k (Int.tmod (Go.bits .and .i64 a0 65535) 51) t291 0 bt299.2.1 bt299.2.2.1 bt299.2.2.2.1 bt299.2.2.2.2.1 bt299.2.2.2.2.2.1 bt299.2.2.2.2.2.2) else (some false))))
theorem millwrightlaw09_LifeStops.mono_l : ∀ k, (∀ y0 y1 y2 y3 y4 y5 y6 y7 y8, LeO (millwrightlaw09_LifeStops.l0 k y0 y1 y2 y3 y4 y5 y6 y7 y8) (millwrightlaw09_LifeStops.l0 (k + 1) y0 y1 y2 y3 y4 y5 y6 y7 y8))
  | 0 => fun _ _ _ _ _ _ _ _ _ r h => by simp [millwrightlaw09_LifeStops.l0] at h
  | k + 1 => by
    have ih0 := millwrightlaw09_LifeStops.mono_l k
    · intro y0 y1 y2 y3 y4 y5 y6 y7 y8
      unfold millwrightlaw09_LifeStops.l0
      repeat' first
      | (with_reducible exact ih0 _ _ _ _ _ _ _ _ _)
      | (with_reducible exact life_Life_Start.mono _ _ _ _ _ _ _)
      | (with_reducible exact life_Life_Stop.mono _ _ _ _ _ _ _)
      | (with_reducible exact life_Life_Want.mono _ _ _ _ _ _ _)
      | (with_reducible exact millwrightlaw09_shown.mono _)
      | (with_reducible exact LeO.refl _)
      | (with_reducible exact LeO.none _)
      | (with_reducible refine LeO.ite ?_ ?_)
      | (with_reducible refine LeO.bind ?_ (fun _ => ?_))
      | exact ih0 _ _ _ _ _ _ _ _ _
      | exact life_Life_Start.mono _ _ _ _ _ _ _
      | exact life_Life_Stop.mono _ _ _ _ _ _ _
      | exact life_Life_Want.mono _ _ _ _ _ _ _
      | exact millwrightlaw09_shown.mono _
      | exact LeO.none _
      | refine LeO.ite ?_ ?_
      | refine LeO.bind ?_ (fun _ => ?_)
theorem millwrightlaw09_LifeStops.mono : ∀ a0 k, LeO (millwrightlaw09_LifeStops.f k a0) (millwrightlaw09_LifeStops.f (k + 1) a0) := by
  intro a0 k
  have ih0 := millwrightlaw09_LifeStops.mono_l k
  unfold millwrightlaw09_LifeStops.f
  repeat' first
      | (with_reducible exact ih0 _ _ _ _ _ _ _ _ _)
      | (with_reducible exact life_Life_Start.mono _ _ _ _ _ _ _)
      | (with_reducible exact life_Life_Stop.mono _ _ _ _ _ _ _)
      | (with_reducible exact life_Life_Want.mono _ _ _ _ _ _ _)
      | (with_reducible exact millwrightlaw09_shown.mono _)
      | (with_reducible exact LeO.refl _)
      | (with_reducible exact LeO.none _)
      | (with_reducible refine LeO.ite ?_ ?_)
      | (with_reducible refine LeO.bind ?_ (fun _ => ?_))
      | exact ih0 _ _ _ _ _ _ _ _ _
      | exact life_Life_Start.mono _ _ _ _ _ _ _
      | exact life_Life_Stop.mono _ _ _ _ _ _ _
      | exact life_Life_Want.mono _ _ _ _ _ _ _
      | exact millwrightlaw09_shown.mono _
      | exact LeO.none _
      | refine LeO.ite ?_ ?_
      | refine LeO.bind ?_ (fun _ => ?_)
set_option maxHeartbeats 8000000 in
set_option maxRecDepth 100000 in
theorem millwrightlaw09_LifeStops.calls (k : Nat) (a0 : Int) (w : World) (h : millwrightlaw09_LifeStops.f k a0 = some true) :
    Calls Try.prog 3 #[.int .i64 a0] w fun e w' => e = .returned (.bool true) ∧ Below w.heap.size w w' := by
  have HB := Aside0.mk (Below.refl w.heap.size w)
  have H : ((millwrightlaw09_shown.f k).bind fun t291 => ((life_New.f 1 (Int.tmod (Go.bits .and .i64 a0 65535) 51)).bind fun bt292 => ((life_Life_Want.f k bt292.1 bt292.2.1 bt292.2.2.1 bt292.2.2.2.1 bt292.2.2.2.2.1 bt292.2.2.2.2.2).bind fun bt299 => (if bt299.1 = 0 then (millwrightlaw09_LifeStops.l0 k (Int.tmod (Go.bits .and .i64 a0 65535) 51) t291 0 bt299.2.1 bt299.2.2.1 bt299.2.2.2.1 bt299.2.2.2.2.1 bt299.2.2.2.2.2.1 bt299.2.2.2.2.2.2) else (some false))))) = some true := h
  clear h
  replace H := Option.bind_eq_some_iff.mp H
  obtain ⟨t291, A20, H⟩ := H
  replace H : ((life_New.f 1 (Int.tmod (Go.bits .and .i64 a0 65535) 51)).bind fun bt292 => ((life_Life_Want.f k bt292.1 bt292.2.1 bt292.2.2.1 bt292.2.2.2.1 bt292.2.2.2.2.1 bt292.2.2.2.2.2).bind fun bt299 => (if bt299.1 = 0 then (millwrightlaw09_LifeStops.l0 k (Int.tmod (Go.bits .and .i64 a0 65535) 51) t291 0 bt299.2.1 bt299.2.2.1 bt299.2.2.2.1 bt299.2.2.2.2.1 bt299.2.2.2.2.2.1 bt299.2.2.2.2.2.2) else (some false)))) = some true := H
  have A2 := Aside0.mk A20
  clear A20
  replace H := Option.bind_eq_some_iff.mp H
  obtain ⟨⟨t292, t293, t294, t295, t296, t297⟩, A30, H⟩ := H
  replace H : ((life_Life_Want.f k t292 t293 t294 t295 t296 t297).bind fun bt299 => (if bt299.1 = 0 then (millwrightlaw09_LifeStops.l0 k (Int.tmod (Go.bits .and .i64 a0 65535) 51) t291 0 bt299.2.1 bt299.2.2.1 bt299.2.2.2.1 bt299.2.2.2.2.1 bt299.2.2.2.2.2.1 bt299.2.2.2.2.2.2) else (some false))) = some true := H
  have A3 := Aside0.mk A30
  clear A30
  replace H := Option.bind_eq_some_iff.mp H
  obtain ⟨⟨t299, t300, t301, t302, t303, t304, t305⟩, A40, H⟩ := H
  replace H : (if t299 = 0 then (millwrightlaw09_LifeStops.l0 k (Int.tmod (Go.bits .and .i64 a0 65535) 51) t291 0 t300 t301 t302 t303 t304 t305) else (some false)) = some true := H
  have A4 := Aside0.mk A40
  clear A40
  by_cases c5 : t299 = 0
  · rw [if_pos c5] at H
    have c5b0 : (t299 == 0) = true := beq_iff_eq.mpr c5
    have c5b1 : (t299 != 0) = false := bne_eq_false_iff_eq.mpr c5
    clear c5
    have H' := Aside0.mk H
    clear H
    go_enter Try.func3, Try.ntmps3
    go_wp2_with (first | ((with_reducible refine gate_callee (f := 15) rfl ?_); refine goesL_ (some 6) rfl rfl Try.func15 (by kernel_rfl) rfl #[] rfl (by (try simp only [List.map_toArray, List.map_cons, List.map_nil]); first | done | rfl | (simp only [List.length_drop, List.length_take]; rfl)) ?_; (with_reducible refine (millwrightlaw09_shown.calls k  t291 _ A2.out).mono ?_); rintro e w6 ⟨rfl, hb⟩; refine ⟨_, rfl, ?_⟩; have n0_ := Aside0.mk (below_step (by repeat (first | (with_reducible first | exact HB.out | apply below_alloc | apply pw_below_drewN | apply below_drew1) | exact HB.out)) hb); clear HB; have HB := n0_; clear n0_; (try clear hb); (try clear hb2); (try clear hk); (try clear hi)) | ((with_reducible refine gate_callee (f := 16) rfl ?_); refine goesL_ (some 11) rfl rfl Try.func16 (by kernel_rfl) rfl #[.int .i64 1, .int .i64 (Int.tmod (Go.bits .and .i64 a0 65535) 51)] rfl (by (try simp only [List.map_toArray, List.map_cons, List.map_nil]); first | done | rfl | (simp only [List.length_drop, List.length_take]; rfl)) ?_; (with_reducible refine (life_New.calls 1 (Int.tmod (Go.bits .and .i64 a0 65535) 51) t292 t293 t294 t295 t296 t297 w _ ?side1 A3.out).mono ?_); (case side1 => repeat (first | (with_reducible first | exact HB.out | apply below_alloc | apply pw_below_drewN | apply below_drew1) | exact HB.out)); rintro e w7 ⟨g298, rfl, hi, hb, hb2⟩; refine ⟨_, rfl, ?_⟩; have n0_ := Aside0.mk (hb); have n1_ := Aside0.mk (hi); clear HB; have HB := n0_; have HI298 := n1_; clear n0_ n1_; (try clear hb); (try clear hb2); (try clear hk); (try clear hi)) | (go_at_call 17; (with_reducible refine (life_Life_Want.calls k g298 t292 t293 t294 t295 t296 t297 t299 t300 t301 t302 t303 t304 t305 w _ ?side1 ?side2 A4.out).mono ?_); (case side1 => repeat (first | (with_reducible first | exact HI298.out | apply IsS62.alloc | apply IsS62.drewN | apply IsS62.drew | apply IsS62.set_0 | apply IsS62.set_1 | apply IsS62.set_2 | apply IsS62.set_3 | apply IsS62.set_4 | apply IsS62.set_5) | exact HI298.out)); (case side2 => repeat (first | (with_reducible first | exact HB.out | apply below_alloc | apply pw_below_drewN | apply below_drew1 | refine below_set ?_ (IsS62.ge HI298.out)) | exact HB.out)); rintro e w8 ⟨rfl, hi, hb, hk⟩; have n0_ := Aside0.mk (hb); have n1_ := Aside0.mk (hi); clear HB; clear HI298; have HB := n0_; have HI298 := n1_; clear n0_ n1_; (try clear hb); (try clear hb2); (try clear hk); (try clear hi)))
    go_loopg [5] k (fun kq v5 w' => ∃ (x5_1 : Int) (x299000_1 : Int) (x299001_1 : Int) (x299002_1 : Int) (x299003_1 : Int) (x299004_1 : Int) (x299005_1 : Int), v5 = .int .i64 x5_1 ∧ Aside0 (millwrightlaw09_LifeStops.l0 kq (Int.tmod (Go.bits .and .i64 a0 65535) 51) t291 x5_1 x299000_1 x299001_1 x299002_1 x299003_1 x299004_1 x299005_1 = some true) ∧ Aside0 (kq ≤ k) ∧ Aside0 (IsS62 w w' g298 x299000_1 x299001_1 x299002_1 x299003_1 x299004_1 x299005_1) ∧ Aside0 (Below w.heap.size w w'))
    case atStart => exact ⟨(0), (t300), (t301), (t302), (t303), (t304), (t305), (by first | rfl | (simp; done) | (simp [*]; done)), H', ⟨Nat.le_refl _⟩, ⟨by repeat (first | (with_reducible first | exact HI298.out | apply IsS62.alloc | apply IsS62.drewN | apply IsS62.drew | apply IsS62.set_0 | apply IsS62.set_1 | apply IsS62.set_2 | apply IsS62.set_3 | apply IsS62.set_4 | apply IsS62.set_5) | exact HI298.out)⟩, ⟨by repeat (first | (with_reducible first | exact HB.out | apply below_alloc | apply pw_below_drewN | apply below_drew1 | refine below_set ?_ (IsS62.ge HI298.out)) | exact HB.out)⟩⟩
    case round =>
      clear H'
      try clear c1
      try clear p2
      try clear c3
      try clear c5
      try clear c5b0
      try clear c5b1
      obtain ⟨x5_1, x299000_1, x299001_1, x299002_1, x299003_1, x299004_1, x299005_1, rfl, HA, HK1, HI298, HB⟩ := hrel
      cases gk with
      | zero => exact absurd HA.out (by simp [millwrightlaw09_LifeStops.l0])
      | succ k1 =>
        have H := HA.out
        clear HA
        simp only [millwrightlaw09_LifeStops.l0] at H
        by_cases c9 : x5_1 < (Int.tmod (Go.bits .and .i64 a0 65535) 51)
        · rw [if_pos c9] at H
          have c9b0 : decide (x5_1 < (Int.tmod (Go.bits .and .i64 a0 65535) 51)) = true := decide_eq_true c9
          clear c9
          replace H := Option.bind_eq_some_iff.mp H
          obtain ⟨⟨t306, t307, t308, t309, t310, t311, t312⟩, A100, H⟩ := H
          replace H : (if t306 = 0 then ((life_Life_Stop.f k1 t307 t308 t309 t310 t311 t312).bind fun bt313 => (if bt313.1 = 0 then ((life_Life_State.f bt313.2.1 bt313.2.2.1 bt313.2.2.2.1 bt313.2.2.2.2.1 bt313.2.2.2.2.2.1 bt313.2.2.2.2.2.2).bind fun bt320 => (if bt320.1 = 1 then ((life_Life_Stopped.f bt320.2.1 bt320.2.2.1 bt320.2.2.2.1 bt320.2.2.2.2.1 bt320.2.2.2.2.2.1 bt320.2.2.2.2.2.2).bind fun bt327 => (if bt327.1 = (wrap64 (x5_1 + 1)) then (millwrightlaw09_LifeStops.l0 k1 (Int.tmod (Go.bits .and .i64 a0 65535) 51) t291 (wrap64 (x5_1 + 1)) bt327.2.1 bt327.2.2.1 bt327.2.2.2.1 bt327.2.2.2.2.1 bt327.2.2.2.2.2.1 bt327.2.2.2.2.2.2) else (some false))) else (some false))) else (some false))) else (some false)) = some true := H
          have A10 := Aside0.mk A100
          clear A100
          by_cases c11 : t306 = 0
          · rw [if_pos c11] at H
            have c11b0 : (t306 == 0) = true := beq_iff_eq.mpr c11
            have c11b1 : (t306 != 0) = false := bne_eq_false_iff_eq.mpr c11
            clear c11
            replace H := Option.bind_eq_some_iff.mp H
            obtain ⟨⟨t313, t314, t315, t316, t317, t318, t319⟩, A120, H⟩ := H
            replace H : (if t313 = 0 then ((life_Life_State.f t314 t315 t316 t317 t318 t319).bind fun bt320 => (if bt320.1 = 1 then ((life_Life_Stopped.f bt320.2.1 bt320.2.2.1 bt320.2.2.2.1 bt320.2.2.2.2.1 bt320.2.2.2.2.2.1 bt320.2.2.2.2.2.2).bind fun bt327 => (if bt327.1 = (wrap64 (x5_1 + 1)) then (millwrightlaw09_LifeStops.l0 k1 (Int.tmod (Go.bits .and .i64 a0 65535) 51) t291 (wrap64 (x5_1 + 1)) bt327.2.1 bt327.2.2.1 bt327.2.2.2.1 bt327.2.2.2.2.1 bt327.2.2.2.2.2.1 bt327.2.2.2.2.2.2) else (some false))) else (some false))) else (some false)) = some true := H
            have A12 := Aside0.mk A120
            clear A120
            by_cases c13 : t313 = 0
            · rw [if_pos c13] at H
              have c13b0 : (t313 == 0) = true := beq_iff_eq.mpr c13
              have c13b1 : (t313 != 0) = false := bne_eq_false_iff_eq.mpr c13
              clear c13
              replace H := Option.bind_eq_some_iff.mp H
              obtain ⟨⟨t320, t321, t322, t323, t324, t325, t326⟩, A140, H⟩ := H
              replace H : (if t320 = 1 then ((life_Life_Stopped.f t321 t322 t323 t324 t325 t326).bind fun bt327 => (if bt327.1 = (wrap64 (x5_1 + 1)) then (millwrightlaw09_LifeStops.l0 k1 (Int.tmod (Go.bits .and .i64 a0 65535) 51) t291 (wrap64 (x5_1 + 1)) bt327.2.1 bt327.2.2.1 bt327.2.2.2.1 bt327.2.2.2.2.1 bt327.2.2.2.2.2.1 bt327.2.2.2.2.2.2) else (some false))) else (some false)) = some true := H
              have A14 := Aside0.mk A140
              clear A140
              by_cases c15 : t320 = 1
              · rw [if_pos c15] at H
                have c15b0 : (t320 == 1) = true := beq_iff_eq.mpr c15
                have c15b1 : (t320 != 1) = false := bne_eq_false_iff_eq.mpr c15
                clear c15
                replace H := Option.bind_eq_some_iff.mp H
                obtain ⟨⟨t327, t328, t329, t330, t331, t332, t333⟩, A160, H⟩ := H
                replace H : (if t327 = (wrap64 (x5_1 + 1)) then (millwrightlaw09_LifeStops.l0 k1 (Int.tmod (Go.bits .and .i64 a0 65535) 51) t291 (wrap64 (x5_1 + 1)) t328 t329 t330 t331 t332 t333) else (some false)) = some true := H
                have A16 := Aside0.mk A160
                clear A160
                by_cases c17 : t327 = (wrap64 (x5_1 + 1))
                · rw [if_pos c17] at H
                  have c17b0 : (t327 == (wrap64 (x5_1 + 1))) = true := beq_iff_eq.mpr c17
                  have c17b1 : (t327 != (wrap64 (x5_1 + 1))) = false := bne_eq_false_iff_eq.mpr c17
                  clear c17
                  have H' := Aside0.mk H
                  clear H
                  go_wp2_with (first | ((with_reducible refine gate_callee (f := 18) rfl ?_); refine goesL_ (some 25) rfl rfl Try.func18 (by kernel_rfl) rfl #[.pointer (some ⟨g298, 0, none⟩)] rfl (by (try simp only [List.map_toArray, List.map_cons, List.map_nil]); first | done | rfl | (simp only [List.length_drop, List.length_take]; rfl)) ?_; (with_reducible refine (life_Life_Start.calls k1 g298 x299000_1 x299001_1 x299002_1 x299003_1 x299004_1 x299005_1 t306 t307 t308 t309 t310 t311 t312 w _ ?side1 ?side2 A10.out).mono ?_); (case side1 => repeat (first | (with_reducible first | exact HI298.out | apply IsS62.alloc | apply IsS62.drewN | apply IsS62.drew | apply IsS62.set_0 | apply IsS62.set_1 | apply IsS62.set_2 | apply IsS62.set_3 | apply IsS62.set_4 | apply IsS62.set_5) | exact HI298.out)); (case side2 => repeat (first | (with_reducible first | exact HB.out | apply below_alloc | apply pw_below_drewN | apply below_drew1 | refine below_set ?_ (IsS62.ge HI298.out)) | exact HB.out)); rintro e w18 ⟨rfl, hi, hb, hk⟩; refine ⟨_, rfl, ?_⟩; have n0_ := Aside0.mk (hb); have n1_ := Aside0.mk (hi); clear HB; clear HI298; have HB := n0_; have HI298 := n1_; clear n0_ n1_; (try clear hb); (try clear hb2); (try clear hk); (try clear hi)) | (go_at_call 19; (with_reducible refine (life_Life_Stop.calls k1 g298 t307 t308 t309 t310 t311 t312 t313 t314 t315 t316 t317 t318 t319 w _ ?side1 ?side2 A12.out).mono ?_); (case side1 => repeat (first | (with_reducible first | exact HI298.out | apply IsS62.alloc | apply IsS62.drewN | apply IsS62.drew | apply IsS62.set_0 | apply IsS62.set_1 | apply IsS62.set_2 | apply IsS62.set_3 | apply IsS62.set_4 | apply IsS62.set_5) | exact HI298.out)); (case side2 => repeat (first | (with_reducible first | exact HB.out | apply below_alloc | apply pw_below_drewN | apply below_drew1 | refine below_set ?_ (IsS62.ge HI298.out)) | exact HB.out)); rintro e w19 ⟨rfl, hi, hb, hk⟩; have n0_ := Aside0.mk (hb); have n1_ := Aside0.mk (hi); clear HB; clear HI298; have HB := n0_; have HI298 := n1_; clear n0_ n1_; (try clear hb); (try clear hb2); (try clear hk); (try clear hi)) | (go_at_call 20; (with_reducible refine (life_Life_State.calls g298 t314 t315 t316 t317 t318 t319 t320 t321 t322 t323 t324 t325 t326 w _ ?side1 ?side2 A14.out).mono ?_); (case side1 => repeat (first | (with_reducible first | exact HI298.out | apply IsS62.alloc | apply IsS62.drewN | apply IsS62.drew | apply IsS62.set_0 | apply IsS62.set_1 | apply IsS62.set_2 | apply IsS62.set_3 | apply IsS62.set_4 | apply IsS62.set_5) | exact HI298.out)); (case side2 => repeat (first | (with_reducible first | exact HB.out | apply below_alloc | apply pw_below_drewN | apply below_drew1 | refine below_set ?_ (IsS62.ge HI298.out)) | exact HB.out)); rintro e w20 ⟨rfl, hi, hb, hk⟩; have n0_ := Aside0.mk (hb); have n1_ := Aside0.mk (hi); clear HB; clear HI298; have HB := n0_; have HI298 := n1_; clear n0_ n1_; (try clear hb); (try clear hb2); (try clear hk); (try clear hi)) | (go_at_call 21; (with_reducible refine (life_Life_Stopped.calls g298 t321 t322 t323 t324 t325 t326 t327 t328 t329 t330 t331 t332 t333 w _ ?side1 ?side2 A16.out).mono ?_); (case side1 => repeat (first | (with_reducible first | exact HI298.out | apply IsS62.alloc | apply IsS62.drewN | apply IsS62.drew | apply IsS62.set_0 | apply IsS62.set_1 | apply IsS62.set_2 | apply IsS62.set_3 | apply IsS62.set_4 | apply IsS62.set_5) | exact HI298.out)); (case side2 => repeat (first | (with_reducible first | exact HB.out | apply below_alloc | apply pw_below_drewN | apply below_drew1 | refine below_set ?_ (IsS62.ge HI298.out)) | exact HB.out)); rintro e w21 ⟨rfl, hi, hb, hk⟩; have n0_ := Aside0.mk (hb); have n1_ := Aside0.mk (hi); clear HB; clear HI298; have HB := n0_; have HI298 := n1_; clear n0_ n1_; (try clear hb); (try clear hb2); (try clear hk); (try clear hi)))
                  go_roundg k1
                  case measure => have := HK1.out; omega
                  case rel => exact ⟨(wrap64 (x5_1 + 1)), (t328), (t329), (t330), (t331), (t332), (t333), (by first | rfl | (simp; done) | (simp [*]; done)), H', ⟨by have := HK1.out; omega⟩, ⟨by repeat (first | (with_reducible first | exact HI298.out | apply IsS62.alloc | apply IsS62.drewN | apply IsS62.drew | apply IsS62.set_0 | apply IsS62.set_1 | apply IsS62.set_2 | apply IsS62.set_3 | apply IsS62.set_4 | apply IsS62.set_5) | exact HI298.out)⟩, ⟨by repeat (first | (with_reducible first | exact HB.out | apply below_alloc | apply pw_below_drewN | apply below_drew1 | refine below_set ?_ (IsS62.ge HI298.out)) | exact HB.out)⟩⟩
                · rw [if_neg c17] at H
                  have c17b0 : (t327 == (wrap64 (x5_1 + 1))) = false := beq_eq_false_iff_ne.mpr c17
                  have c17b1 : (t327 != (wrap64 (x5_1 + 1))) = true := bne_iff_ne.mpr c17
                  exact absurd H (by simp)
              · rw [if_neg c15] at H
                have c15b0 : (t320 == 1) = false := beq_eq_false_iff_ne.mpr c15
                have c15b1 : (t320 != 1) = true := bne_iff_ne.mpr c15
                exact absurd H (by simp)
            · rw [if_neg c13] at H
              have c13b0 : (t313 == 0) = false := beq_eq_false_iff_ne.mpr c13
              have c13b1 : (t313 != 0) = true := bne_iff_ne.mpr c13
              exact absurd H (by simp)
          · rw [if_neg c11] at H
            have c11b0 : (t306 == 0) = false := beq_eq_false_iff_ne.mpr c11
            have c11b1 : (t306 != 0) = true := bne_iff_ne.mpr c11
            exact absurd H (by simp)
        · rw [if_neg c9] at H
          have c9b0 : decide (x5_1 < (Int.tmod (Go.bits .and .i64 a0 65535) 51)) = false := decide_eq_false c9
          clear c9
          by_cases c22 : t291 = true
          · subst c22
            have H1 : ((life_Life_Start.f k1 x299000_1 x299001_1 x299002_1 x299003_1 x299004_1 x299005_1).bind fun bt334 => (if bt334.1 = 0 then ((life_Life_Stop.f k1 bt334.2.1 bt334.2.2.1 bt334.2.2.2.1 bt334.2.2.2.2.1 bt334.2.2.2.2.2.1 bt334.2.2.2.2.2.2).bind fun bt341 => (if bt341.1 = 4 then ((life_Life_State.f bt341.2.1 bt341.2.2.1 bt341.2.2.2.1 bt341.2.2.2.2.1 bt341.2.2.2.2.2.1 bt341.2.2.2.2.2.2).bind fun bt348 => (if bt348.1 = 2 then ((life_Life_Stopped.f bt348.2.1 bt348.2.2.1 bt348.2.2.2.1 bt348.2.2.2.2.1 bt348.2.2.2.2.2.1 bt348.2.2.2.2.2.2).bind fun bt355 => (if bt355.1 = (Int.tmod (Go.bits .and .i64 a0 65535) 51) then ((life_Life_Missed.f bt355.2.1 bt355.2.2.1 bt355.2.2.2.1 bt355.2.2.2.2.1 bt355.2.2.2.2.2.1 bt355.2.2.2.2.2.2).bind fun bt362 => (if bt362.1 = 0 then ((life_Life_Epoch.f bt362.2.1 bt362.2.2.1 bt362.2.2.2.1 bt362.2.2.2.2.1 bt362.2.2.2.2.2.1 bt362.2.2.2.2.2.2).bind fun bt369 => (some (bt369.1 == (wrap64 ((Int.tmod (Go.bits .and .i64 a0 65535) 51) + 1))))) else (some false))) else (some false))) else (some false))) else (some false))) else (some false))) = some true := by rw [if_pos rfl] at H; exact H
            clear H
            have H := H1
            clear H1
            replace H := Option.bind_eq_some_iff.mp H
            obtain ⟨⟨t334, t335, t336, t337, t338, t339, t340⟩, A230, H⟩ := H
            replace H : (if t334 = 0 then ((life_Life_Stop.f k1 t335 t336 t337 t338 t339 t340).bind fun bt341 => (if bt341.1 = 4 then ((life_Life_State.f bt341.2.1 bt341.2.2.1 bt341.2.2.2.1 bt341.2.2.2.2.1 bt341.2.2.2.2.2.1 bt341.2.2.2.2.2.2).bind fun bt348 => (if bt348.1 = 2 then ((life_Life_Stopped.f bt348.2.1 bt348.2.2.1 bt348.2.2.2.1 bt348.2.2.2.2.1 bt348.2.2.2.2.2.1 bt348.2.2.2.2.2.2).bind fun bt355 => (if bt355.1 = (Int.tmod (Go.bits .and .i64 a0 65535) 51) then ((life_Life_Missed.f bt355.2.1 bt355.2.2.1 bt355.2.2.2.1 bt355.2.2.2.2.1 bt355.2.2.2.2.2.1 bt355.2.2.2.2.2.2).bind fun bt362 => (if bt362.1 = 0 then ((life_Life_Epoch.f bt362.2.1 bt362.2.2.1 bt362.2.2.2.1 bt362.2.2.2.2.1 bt362.2.2.2.2.2.1 bt362.2.2.2.2.2.2).bind fun bt369 => (some (bt369.1 == (wrap64 ((Int.tmod (Go.bits .and .i64 a0 65535) 51) + 1))))) else (some false))) else (some false))) else (some false))) else (some false))) else (some false)) = some true := H
            have A23 := Aside0.mk A230
            clear A230
            by_cases c24 : t334 = 0
            · rw [if_pos c24] at H
              have c24b0 : (t334 == 0) = true := beq_iff_eq.mpr c24
              have c24b1 : (t334 != 0) = false := bne_eq_false_iff_eq.mpr c24
              clear c24
              replace H := Option.bind_eq_some_iff.mp H
              obtain ⟨⟨t341, t342, t343, t344, t345, t346, t347⟩, A250, H⟩ := H
              replace H : (if t341 = 4 then ((life_Life_State.f t342 t343 t344 t345 t346 t347).bind fun bt348 => (if bt348.1 = 2 then ((life_Life_Stopped.f bt348.2.1 bt348.2.2.1 bt348.2.2.2.1 bt348.2.2.2.2.1 bt348.2.2.2.2.2.1 bt348.2.2.2.2.2.2).bind fun bt355 => (if bt355.1 = (Int.tmod (Go.bits .and .i64 a0 65535) 51) then ((life_Life_Missed.f bt355.2.1 bt355.2.2.1 bt355.2.2.2.1 bt355.2.2.2.2.1 bt355.2.2.2.2.2.1 bt355.2.2.2.2.2.2).bind fun bt362 => (if bt362.1 = 0 then ((life_Life_Epoch.f bt362.2.1 bt362.2.2.1 bt362.2.2.2.1 bt362.2.2.2.2.1 bt362.2.2.2.2.2.1 bt362.2.2.2.2.2.2).bind fun bt369 => (some (bt369.1 == (wrap64 ((Int.tmod (Go.bits .and .i64 a0 65535) 51) + 1))))) else (some false))) else (some false))) else (some false))) else (some false)) = some true := H
              have A25 := Aside0.mk A250
              clear A250
              by_cases c26 : t341 = 4
              · rw [if_pos c26] at H
                have c26b0 : (t341 == 4) = true := beq_iff_eq.mpr c26
                have c26b1 : (t341 != 4) = false := bne_eq_false_iff_eq.mpr c26
                clear c26
                replace H := Option.bind_eq_some_iff.mp H
                obtain ⟨⟨t348, t349, t350, t351, t352, t353, t354⟩, A270, H⟩ := H
                replace H : (if t348 = 2 then ((life_Life_Stopped.f t349 t350 t351 t352 t353 t354).bind fun bt355 => (if bt355.1 = (Int.tmod (Go.bits .and .i64 a0 65535) 51) then ((life_Life_Missed.f bt355.2.1 bt355.2.2.1 bt355.2.2.2.1 bt355.2.2.2.2.1 bt355.2.2.2.2.2.1 bt355.2.2.2.2.2.2).bind fun bt362 => (if bt362.1 = 0 then ((life_Life_Epoch.f bt362.2.1 bt362.2.2.1 bt362.2.2.2.1 bt362.2.2.2.2.1 bt362.2.2.2.2.2.1 bt362.2.2.2.2.2.2).bind fun bt369 => (some (bt369.1 == (wrap64 ((Int.tmod (Go.bits .and .i64 a0 65535) 51) + 1))))) else (some false))) else (some false))) else (some false)) = some true := H
                have A27 := Aside0.mk A270
                clear A270
                by_cases c28 : t348 = 2
                · rw [if_pos c28] at H
                  have c28b0 : (t348 == 2) = true := beq_iff_eq.mpr c28
                  have c28b1 : (t348 != 2) = false := bne_eq_false_iff_eq.mpr c28
                  clear c28
                  replace H := Option.bind_eq_some_iff.mp H
                  obtain ⟨⟨t355, t356, t357, t358, t359, t360, t361⟩, A290, H⟩ := H
                  replace H : (if t355 = (Int.tmod (Go.bits .and .i64 a0 65535) 51) then ((life_Life_Missed.f t356 t357 t358 t359 t360 t361).bind fun bt362 => (if bt362.1 = 0 then ((life_Life_Epoch.f bt362.2.1 bt362.2.2.1 bt362.2.2.2.1 bt362.2.2.2.2.1 bt362.2.2.2.2.2.1 bt362.2.2.2.2.2.2).bind fun bt369 => (some (bt369.1 == (wrap64 ((Int.tmod (Go.bits .and .i64 a0 65535) 51) + 1))))) else (some false))) else (some false)) = some true := H
                  have A29 := Aside0.mk A290
                  clear A290
                  by_cases c30 : t355 = (Int.tmod (Go.bits .and .i64 a0 65535) 51)
                  · rw [if_pos c30] at H
                    have c30b0 : (t355 == (Int.tmod (Go.bits .and .i64 a0 65535) 51)) = true := beq_iff_eq.mpr c30
                    have c30b1 : (t355 != (Int.tmod (Go.bits .and .i64 a0 65535) 51)) = false := bne_eq_false_iff_eq.mpr c30
                    clear c30
                    replace H := Option.bind_eq_some_iff.mp H
                    obtain ⟨⟨t362, t363, t364, t365, t366, t367, t368⟩, A310, H⟩ := H
                    replace H : (if t362 = 0 then ((life_Life_Epoch.f t363 t364 t365 t366 t367 t368).bind fun bt369 => (some (bt369.1 == (wrap64 ((Int.tmod (Go.bits .and .i64 a0 65535) 51) + 1))))) else (some false)) = some true := H
                    have A31 := Aside0.mk A310
                    clear A310
                    by_cases c32 : t362 = 0
                    · rw [if_pos c32] at H
                      have c32b0 : (t362 == 0) = true := beq_iff_eq.mpr c32
                      have c32b1 : (t362 != 0) = false := bne_eq_false_iff_eq.mpr c32
                      clear c32
                      replace H := Option.bind_eq_some_iff.mp H
                      obtain ⟨⟨t369, t370, t371, t372, t373, t374, t375⟩, A330, H⟩ := H
                      replace H : (some (t369 == (wrap64 ((Int.tmod (Go.bits .and .i64 a0 65535) 51) + 1)))) = some true := H
                      have A33 := Aside0.mk A330
                      clear A330
                      have HT_ := Option.some.inj H
                      clear H
                      go_wp2_with (first | (go_at_call 18; (with_reducible refine (life_Life_Start.calls k1 g298 x299000_1 x299001_1 x299002_1 x299003_1 x299004_1 x299005_1 t334 t335 t336 t337 t338 t339 t340 w _ ?side1 ?side2 A23.out).mono ?_); (case side1 => repeat (first | (with_reducible first | exact HI298.out | apply IsS62.alloc | apply IsS62.drewN | apply IsS62.drew | apply IsS62.set_0 | apply IsS62.set_1 | apply IsS62.set_2 | apply IsS62.set_3 | apply IsS62.set_4 | apply IsS62.set_5) | exact HI298.out)); (case side2 => repeat (first | (with_reducible first | exact HB.out | apply below_alloc | apply pw_below_drewN | apply below_drew1 | refine below_set ?_ (IsS62.ge HI298.out)) | exact HB.out)); rintro e w34 ⟨rfl, hi, hb, hk⟩; have n0_ := Aside0.mk (hb); have n1_ := Aside0.mk (hi); clear HB; clear HI298; have HB := n0_; have HI298 := n1_; clear n0_ n1_; (try clear hb); (try clear hb2); (try clear hk); (try clear hi)) | (go_at_call 19; (with_reducible refine (life_Life_Stop.calls k1 g298 t335 t336 t337 t338 t339 t340 t341 t342 t343 t344 t345 t346 t347 w _ ?side1 ?side2 A25.out).mono ?_); (case side1 => repeat (first | (with_reducible first | exact HI298.out | apply IsS62.alloc | apply IsS62.drewN | apply IsS62.drew | apply IsS62.set_0 | apply IsS62.set_1 | apply IsS62.set_2 | apply IsS62.set_3 | apply IsS62.set_4 | apply IsS62.set_5) | exact HI298.out)); (case side2 => repeat (first | (with_reducible first | exact HB.out | apply below_alloc | apply pw_below_drewN | apply below_drew1 | refine below_set ?_ (IsS62.ge HI298.out)) | exact HB.out)); rintro e w35 ⟨rfl, hi, hb, hk⟩; have n0_ := Aside0.mk (hb); have n1_ := Aside0.mk (hi); clear HB; clear HI298; have HB := n0_; have HI298 := n1_; clear n0_ n1_; (try clear hb); (try clear hb2); (try clear hk); (try clear hi)) | (go_at_call 20; (with_reducible refine (life_Life_State.calls g298 t342 t343 t344 t345 t346 t347 t348 t349 t350 t351 t352 t353 t354 w _ ?side1 ?side2 A27.out).mono ?_); (case side1 => repeat (first | (with_reducible first | exact HI298.out | apply IsS62.alloc | apply IsS62.drewN | apply IsS62.drew | apply IsS62.set_0 | apply IsS62.set_1 | apply IsS62.set_2 | apply IsS62.set_3 | apply IsS62.set_4 | apply IsS62.set_5) | exact HI298.out)); (case side2 => repeat (first | (with_reducible first | exact HB.out | apply below_alloc | apply pw_below_drewN | apply below_drew1 | refine below_set ?_ (IsS62.ge HI298.out)) | exact HB.out)); rintro e w36 ⟨rfl, hi, hb, hk⟩; have n0_ := Aside0.mk (hb); have n1_ := Aside0.mk (hi); clear HB; clear HI298; have HB := n0_; have HI298 := n1_; clear n0_ n1_; (try clear hb); (try clear hb2); (try clear hk); (try clear hi)) | (go_at_call 21; (with_reducible refine (life_Life_Stopped.calls g298 t349 t350 t351 t352 t353 t354 t355 t356 t357 t358 t359 t360 t361 w _ ?side1 ?side2 A29.out).mono ?_); (case side1 => repeat (first | (with_reducible first | exact HI298.out | apply IsS62.alloc | apply IsS62.drewN | apply IsS62.drew | apply IsS62.set_0 | apply IsS62.set_1 | apply IsS62.set_2 | apply IsS62.set_3 | apply IsS62.set_4 | apply IsS62.set_5) | exact HI298.out)); (case side2 => repeat (first | (with_reducible first | exact HB.out | apply below_alloc | apply pw_below_drewN | apply below_drew1 | refine below_set ?_ (IsS62.ge HI298.out)) | exact HB.out)); rintro e w37 ⟨rfl, hi, hb, hk⟩; have n0_ := Aside0.mk (hb); have n1_ := Aside0.mk (hi); clear HB; clear HI298; have HB := n0_; have HI298 := n1_; clear n0_ n1_; (try clear hb); (try clear hb2); (try clear hk); (try clear hi)) | (go_at_call 22; (with_reducible refine (life_Life_Missed.calls g298 t356 t357 t358 t359 t360 t361 t362 t363 t364 t365 t366 t367 t368 w _ ?side1 ?side2 A31.out).mono ?_); (case side1 => repeat (first | (with_reducible first | exact HI298.out | apply IsS62.alloc | apply IsS62.drewN | apply IsS62.drew | apply IsS62.set_0 | apply IsS62.set_1 | apply IsS62.set_2 | apply IsS62.set_3 | apply IsS62.set_4 | apply IsS62.set_5) | exact HI298.out)); (case side2 => repeat (first | (with_reducible first | exact HB.out | apply below_alloc | apply pw_below_drewN | apply below_drew1 | refine below_set ?_ (IsS62.ge HI298.out)) | exact HB.out)); rintro e w38 ⟨rfl, hi, hb, hk⟩; have n0_ := Aside0.mk (hb); have n1_ := Aside0.mk (hi); clear HB; clear HI298; have HB := n0_; have HI298 := n1_; clear n0_ n1_; (try clear hb); (try clear hb2); (try clear hk); (try clear hi)) | (go_at_call 23; (with_reducible refine (life_Life_Epoch.calls g298 t363 t364 t365 t366 t367 t368 t369 t370 t371 t372 t373 t374 t375 w _ ?side1 ?side2 A33.out).mono ?_); (case side1 => repeat (first | (with_reducible first | exact HI298.out | apply IsS62.alloc | apply IsS62.drewN | apply IsS62.drew | apply IsS62.set_0 | apply IsS62.set_1 | apply IsS62.set_2 | apply IsS62.set_3 | apply IsS62.set_4 | apply IsS62.set_5) | exact HI298.out)); (case side2 => repeat (first | (with_reducible first | exact HB.out | apply below_alloc | apply pw_below_drewN | apply below_drew1 | refine below_set ?_ (IsS62.ge HI298.out)) | exact HB.out)); rintro e w39 ⟨rfl, hi, hb, hk⟩; have n0_ := Aside0.mk (hb); have n1_ := Aside0.mk (hi); clear HB; clear HI298; have HB := n0_; have HI298 := n1_; clear n0_ n1_; (try clear hb); (try clear hb2); (try clear hk); (try clear hi)))
                      go_ret
                      exact ⟨by first | rfl | (simp [errW_none, errW_some] <;> rfl) | (simp [*, errW_none, errW_some] <;> rfl), by repeat (first | (with_reducible first | exact HB.out | apply below_alloc | apply pw_below_drewN | apply below_drew1 | refine below_set ?_ (IsS62.ge HI298.out)) | exact HB.out)⟩
                    · rw [if_neg c32] at H
                      have c32b0 : (t362 == 0) = false := beq_eq_false_iff_ne.mpr c32
                      have c32b1 : (t362 != 0) = true := bne_iff_ne.mpr c32
                      exact absurd H (by simp)
                  · rw [if_neg c30] at H
                    have c30b0 : (t355 == (Int.tmod (Go.bits .and .i64 a0 65535) 51)) = false := beq_eq_false_iff_ne.mpr c30
                    have c30b1 : (t355 != (Int.tmod (Go.bits .and .i64 a0 65535) 51)) = true := bne_iff_ne.mpr c30
                    exact absurd H (by simp)
                · rw [if_neg c28] at H
                  have c28b0 : (t348 == 2) = false := beq_eq_false_iff_ne.mpr c28
                  have c28b1 : (t348 != 2) = true := bne_iff_ne.mpr c28
                  exact absurd H (by simp)
              · rw [if_neg c26] at H
                have c26b0 : (t341 == 4) = false := beq_eq_false_iff_ne.mpr c26
                have c26b1 : (t341 != 4) = true := bne_iff_ne.mpr c26
                exact absurd H (by simp)
            · rw [if_neg c24] at H
              have c24b0 : (t334 == 0) = false := beq_eq_false_iff_ne.mpr c24
              have c24b1 : (t334 != 0) = true := bne_iff_ne.mpr c24
              exact absurd H (by simp)
          · replace c22 := Bool.eq_false_iff.mpr c22
            subst c22
            have H1 : (some false) = some true := by rw [if_neg (show ¬ (false = true) by decide)] at H; exact H
            clear H
            have H := H1
            clear H1
            exact absurd H (by simp)
  · rw [if_neg c5] at H
    have c5b0 : (t299 == 0) = false := beq_eq_false_iff_ne.mpr c5
    have c5b1 : (t299 != 0) = true := bne_iff_ne.mpr c5
    exact absurd H (by simp)

/-- THE ONE PURE STATEMENT of millwrightlaw09_LifeStops: yours. -/
def millwrightlaw09_LifeStops.Pure : Prop := ∀ (a0 : Int), (Lit.int .i64 a0).wf = true → ∃ k, millwrightlaw09_LifeStops.f k a0 = some true
theorem millwrightlaw09_LifeStops.walk (P : millwrightlaw09_LifeStops.Pure) (a0 : Int) (w : World) (w0 : (Lit.int .i64 a0).wf = true) :
    Calls Try.prog 3 #[.int .i64 a0] w fun e w' => e = .returned (.bool true) ∧ Below w.heap.size w w' := by
  obtain ⟨k, h⟩ := P a0 w0
  refine (millwrightlaw09_LifeStops.calls k a0 w h).mono ?_
  rintro e w' ⟨rfl, hd⟩
  exact ⟨rfl, hd⟩

end Go.Proofs.Ytkldfjlbgmppfab.MLifeStops
