import Derived.Test.YtkldfjlbgmppfabLs
import Derived.Test.YtkldfjlbgmppfabLp2
import Derived.StillTailTactics
namespace Go.Proofs.Ytkldfjlbgmppfab.Ld
open Go.RowKit Go.Proofs.YtkldfjlbgmppfabW.PrintWords Go.Proofs.YtkldfjlbgmppfabW.PrintLast Go.Proofs.YtkldfjlbgmppfabW.PrintMore
set_option linter.unusedVariables false
set_option linter.unusedSimpArgs false
attribute [local go_sem] max2_int min2_int max_two min_two
set_option maxHeartbeats 8000000 in
set_option maxRecDepth 100000 in
theorem Back_calls (budget slots : Int) (hbud : budget ≤ 9223372036854775807) (A : Option Addr) (l : List S37) (c : Nat) (id mem : Int) (w : World) (hl : Kd.C k37 w A l.length l) :
    Calls Try.prog 6 #[.int .i64 budget, .int .i64 slots, .slice A l.length c, .int .i64 id, .int .i64 mem] w fun e w' => e = .returned (.bool true) ∧ Below w.heap.size w w' := by
  go_enter Try.func6, Try.ntmps6
  go_upto_block 0 with (first
    | (go_at_call 24; (with_reducible refine (shown_calls _).mono ?_); rintro e w1 ⟨rfl, hb1⟩)
    | (go_at_call 25; (with_reducible refine (New_calls _ _ _).mono ?_); rintro e w2 ⟨rfl, hA, hb2⟩))
  have hBB := below_step hb1 hb2
  have hg := hb1.size
  obtain ⟨g, hgg⟩ : ∃ g, g = w1.heap.size := ⟨_, rfl⟩
  rw [← hgg] at hA hg ⊢
  have HI := Aside0.mk (inv_fresh budget slots hbud)
  have HL := Aside0.mk hl
  clear hb1 hb2 hgg hl
  go_cut [13] (fun v13 wc => Aside0 (∃ s, Inv s ∧ At wc g s ∧ Below w.heap.size w wc))
  case first =>
    go_wp2
    go_loopg [13] 101 (fun kq v13 wr => ∃ i : Nat, v13 = .int .i64 (i : Int) ∧ Aside0 (∃ s, kq + i = 101 ∧ i ≤ l.length ∧ i ≤ 100 ∧ Inv s ∧ At wr g s ∧ Below w.heap.size w wr))
    case atStart => exact ⟨0, rfl, ⟨_, by omega, by omega, by omega, HI.out, hA, hBB⟩⟩
    case round =>
      obtain ⟨i, rfl, hR⟩ := hrel
      obtain ⟨s, hk, hi1, hi2, hs, ha, hbw⟩ := hR.out
      have HS := Aside0.mk hs
      have HB := Aside0.mk hbw
      have HA := Aside0.mk ha
      by_cases hlt : i < l.length ∧ i < 100
      · obtain ⟨hlt1, hlt2⟩ := hlt
        have hlr := Kd.C_below HL.out hbw
        obtain ⟨ad, rfl, c0, c1, c2⟩ := at_step hlr (i : Int) (by omega) (by omega)
        simp only [Int.toNat_natCast] at c0 c1 c2
        have p1 : (0 ≤ (i : Int)) = True := eq_true (by omega)
        have p2 : ((i : Int) < (l.length : Int)) = True := eq_true (by omega)
        have p3 : (i : Int) < 100 := by omega
        generalize rds l (i : Int) = z at c0 c1 c2
        clear hR hs hbw ha hA hBB hlr
        by_cases hz : z.f0 = 3
        · have hz2 : (z.f0 == 3) = true := by simp [hz]
          go_wp2_with (go_at_call 28; (with_reducible refine (Free_r HS.out rfl _ ?ha).mono ?_); (case ha => exact HA.out); rintro e w5 ⟨rfl, hA5, hT⟩; have H5 := Aside0.mk hA5; have B5 := Aside0.mk (hT.below HB.out hg (Nat.le_refl _)); clear hA5 hT)
          go_roundg (gk - 1)
          case measure => omega
          case rel => exact ⟨i + 1, rfl, ⟨_, by omega, by omega, by omega, inv_free HS.out _, H5.out, B5.out⟩⟩
        · have hz2 : (z.f0 == 3) = false := by simp [hz]
          go_wp2
          go_still_tail 11, (by kernel_rfl)
          go_wp2_with (go_at_call 26; (with_reducible refine (Take_r HS.out rfl rfl _ ?ha).mono ?_); (case ha => exact HA.out); rintro e w5 ⟨rfl, hA5, hT⟩; have H5 := Aside0.mk hA5; have B5 := Aside0.mk (hT.below (pw_below_drewN HB.out _) hg (Nat.le_refl _)); clear hA5 hT)
          go_roundg (gk - 1)
          case measure => omega
          case rel => exact ⟨i + 1, rfl, ⟨_, by omega, by omega, by omega, inv_take HS.out _ _, H5.out, B5.out⟩⟩
      · have hd : ¬ i < l.length ∨ (i < l.length ∧ (100 : Int) ≤ (i : Int)) := by omega
        have HX := Aside0.mk (show ∃ s, Inv s ∧ At wr g s ∧ Below w.heap.size w wr from ⟨s, hs, ha, hbw⟩)
        clear hR hs hbw ha hA hBB hlt
        rcases hd with b1 | ⟨b1, b2⟩
        · go_wp2
          go_meet
          exact HX
        · have n2 : ¬ (i : Int) < 100 := by omega
          go_wp2
          go_meet
          exact HX
  case rest =>
    obtain ⟨s, hs, ha, hbw⟩ := hcut.out
    clear hBB hA
    have hle := slots_le hs
    have hu0 := hs.pos
    have hub := hs.le
    have hbig := hs.big
    have HS := Aside0.mk hs
    have HA := Aside0.mk ha
    have HB := Aside0.mk hbw
    obtain ⟨a, ea⟩ : ∃ a, slotI s id = a := ⟨_, rfl⟩
    obtain ⟨b, eb⟩ : ∃ b, slotB s id = b := ⟨_, rfl⟩
    obtain ⟨u, eu⟩ : ∃ u, s.used = u := ⟨_, rfl⟩
    obtain ⟨f, ef⟩ : ∃ f, Ld.slots s = f := ⟨_, rfl⟩
    rw [eu] at hu0 hub
    rw [ef] at hle
    have EA := Aside0.mk ea
    have EU := Aside0.mk eu
    have EF := Aside0.mk ef
    by_cases he : takeErr s id mem = 0
    · obtain ⟨i, hT⟩ := took hs he
      have hroom := hT.room
      have hm0 := hT.mem0
      have hid0 := hT.id0
      rw [eu] at hroom
      obtain ⟨f0, f1, f2, f3⟩ := took_freed hs hT
      have F0 := Aside0.mk f0
      have F1 := Aside0.mk f1
      have F2 := Aside0.mk (f2.trans eu)
      have F3 := Aside0.mk (f3.trans ef)
      have T0 := Aside0.mk he
      have T1 := Aside0.mk hT.slot
      have T2 := Aside0.mk hT.isThere
      have T3 := Aside0.mk (show (takeSt s id mem).used = u + mem by rw [hT.used, eu])
      have T4 := Aside0.mk (show Ld.slots (takeSt s id mem) = f - 1 by rw [hT.slots, ef])
      have EB := Aside0.mk hT.has
      clear f0 f1 f2 f3 he hT ea eb eu ef hs ha hbw hcut
      go_wp2_with (first
        | (go_at_call 30; (with_reducible refine (Slot_r EA.out EB.out HS.out.many _ ?ha).mono ?_); (case ha => exact HA.out); rintro e w3 ⟨rfl, hb⟩; have A3 := Aside0.mk (HA.out.below hb); have B3 := Aside0.mk (below_step HB.out hb); clear hb)
        | (go_at_call 32; (with_reducible refine (Used_r EU.out _ ?ha).mono ?_); (case ha => exact A3.out); rintro e w4 ⟨rfl, ⟨n4, rfl⟩⟩)
        | (go_at_call 35; (with_reducible refine (Slots_r HS.out EF.out _ ?ha).mono ?_); (case ha => exact A3.out); rintro e w5 ⟨rfl, hb⟩; have A5 := Aside0.mk (At.below (w := w3.drewN n4) A3.out hb); have B5 := Aside0.mk (below_step (pw_below_drewN B3.out n4) hb); clear hb)
        | (go_at_call 26; (with_reducible refine (Take_r HS.out T1.out T0.out _ ?ha).mono ?_); (case ha => exact A5.out); rintro e w6 ⟨rfl, hA6, hT6⟩; have A6 := Aside0.mk hA6; have B6 := Aside0.mk (hT6.below B5.out hg (Nat.le_refl _)); clear hA6 hT6)
        | (go_at_call 30; (with_reducible refine (Slot_r T2.out.2 T2.out.1 (inv_take HS.out _ _).many _ ?ha).mono ?_); (case ha => exact A6.out); rintro e w7 ⟨rfl, hb⟩; have A7 := Aside0.mk (A6.out.below hb); have B7 := Aside0.mk (below_step B6.out hb); clear hb)
        | (go_at_call 32; (with_reducible refine (Used_r T3.out _ ?ha).mono ?_); (case ha => exact A7.out); rintro e w8 ⟨rfl, ⟨n8, rfl⟩⟩)
        | (go_at_call 35; (with_reducible refine (Slots_r (inv_take HS.out _ _) T4.out _ ?ha).mono ?_); (case ha => exact A7.out); rintro e w9 ⟨rfl, hb⟩; have A9 := Aside0.mk (At.below (w := w7.drewN n8) A7.out hb); have B9 := Aside0.mk (below_step (pw_below_drewN B7.out n8) hb); clear hb)
        | (go_at_call 28; (with_reducible refine (Free_r (inv_take HS.out _ _) F0.out _ ?ha).mono ?_); (case ha => exact A9.out); rintro e w10 ⟨rfl, hA6, hT6⟩; have A10 := Aside0.mk hA6; have B10 := Aside0.mk (hT6.below B9.out hg (Nat.le_refl _)); clear hA6 hT6)
        | (go_at_call 37; (with_reducible refine (At_r (inv_free (inv_take HS.out _ _) _) rfl F1.out _ ?ha).mono ?_); (case ha => exact A10.out); rintro e w11 ⟨rfl, hb⟩; have A11 := Aside0.mk (A10.out.below hb); have B11 := Aside0.mk (below_step B10.out hb); clear hb)
        | (go_at_call 32; (with_reducible refine (Used_r F2.out _ ?ha).mono ?_); (case ha => exact A11.out); rintro e w12 ⟨rfl, ⟨n12, rfl⟩⟩)
        | (go_at_call 35; (with_reducible refine (Slots_r (inv_free (inv_take HS.out _ _) _) F3.out _ ?ha).mono ?_); (case ha => exact A11.out); rintro e w13 ⟨rfl, hb⟩; have B13 := Aside0.mk (below_step (pw_below_drewN B11.out n12) hb); clear hb))
      go_ret
      exact ⟨rfl, B13.out⟩
    · obtain ⟨n0, n1⟩ := take_no he
      obtain ⟨er, eer⟩ : ∃ er, takeErr s id mem = er := ⟨_, rfl⟩
      rw [eer] at he
      have T0 := Aside0.mk eer
      have T1 := Aside0.mk n0
      have T2 := Aside0.mk n1
      have EB := Aside0.mk eb
      have he2 : (er == 0) = false := by simpa using he
      clear n0 n1 eer ea eb eu ef hs ha hbw hcut
      go_wp2_with (first
        | (go_at_call 30; (with_reducible refine (Slot_r EA.out EB.out HS.out.many _ ?ha).mono ?_); (case ha => exact HA.out); rintro e w3 ⟨rfl, hb⟩; have A3 := Aside0.mk (HA.out.below hb); have B3 := Aside0.mk (below_step HB.out hb); clear hb)
        | (go_at_call 32; (with_reducible refine (Used_r EU.out _ ?ha).mono ?_); (case ha => exact A3.out); rintro e w4 ⟨rfl, ⟨n4, rfl⟩⟩)
        | (go_at_call 35; (with_reducible refine (Slots_r HS.out EF.out _ ?ha).mono ?_); (case ha => exact A3.out); rintro e w5 ⟨rfl, hb⟩; have A5 := Aside0.mk (At.below (w := w3.drewN n4) A3.out hb); have B5 := Aside0.mk (below_step (pw_below_drewN B3.out n4) hb); clear hb)
        | (go_at_call 26; (with_reducible refine (Take_r HS.out T1.out T0.out _ ?ha).mono ?_); (case ha => exact A5.out); rintro e w6 ⟨rfl, hA6, hT6⟩; rw [T2.out] at hA6; have A6 := Aside0.mk hA6; have B6 := Aside0.mk (hT6.below B5.out hg (Nat.le_refl _)); clear hA6 hT6)
        | (go_at_call 32; (with_reducible refine (Used_r EU.out _ ?ha).mono ?_); (case ha => exact A6.out); rintro e w8 ⟨rfl, ⟨n8, rfl⟩⟩)
        | (go_at_call 35; (with_reducible refine (Slots_r HS.out EF.out _ ?ha).mono ?_); (case ha => exact A6.out); rintro e w9 ⟨rfl, hb⟩; have B9 := Aside0.mk (below_step (pw_below_drewN B6.out n8) hb); clear hb))
      all_goals
        go_ret
        exact ⟨rfl, B9.out⟩
end Go.Proofs.Ytkldfjlbgmppfab.Ld
