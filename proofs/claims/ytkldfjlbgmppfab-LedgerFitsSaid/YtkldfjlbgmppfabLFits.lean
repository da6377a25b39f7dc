import Derived.Test.YtkldfjlbgmppfabLs
import Derived.Test.YtkldfjlbgmppfabLp4
import Derived.Test.YtkldfjlbgmppfabPlain
import Derived.StillTailTactics
namespace Go.Proofs.Ytkldfjlbgmppfab.Ld
open Go.RowKit Go.Proofs.YtkldfjlbgmppfabW.PrintWords Go.Proofs.YtkldfjlbgmppfabW.PrintLast Go.Proofs.YtkldfjlbgmppfabW.PrintMore
set_option linter.unusedVariables false
set_option linter.unusedSimpArgs false
attribute [local go_sem] max2_int min2_int max_two min_two
set_option maxHeartbeats 8000000 in
set_option maxRecDepth 100000 in
theorem Fits_calls (bud : Int) (A : Option Addr) (l : List Int) (c : Nat) (w : World) (hl : ReadsInt w .i64 A l.length l) :
    Calls Try.prog 8 #[.int .i64 bud, .slice A l.length c] w fun e w' => e = .returned (.bool true) ∧ Below w.heap.size w w' := by
  obtain ⟨B, hB⟩ : ∃ m, bits .and .i64 bud 1048575 = m := ⟨_, rfl⟩
  have hB0 : 0 ≤ B ∧ B < 1048576 := by
    rw [← hB]
    have h2 : bits .and .i64 bud 1048575 = bud % 1048576 := Plain.and_mask bud 20 (by omega)
    rw [h2]; omega
  go_enter Try.func8, Try.ntmps8
  go_upto_block 0 with (first
    | (go_at_call 24; (with_reducible refine (shown_calls _).mono ?_); rintro e w1 ⟨rfl, hb1⟩)
    | (go_at_call 25; (with_reducible refine (New_calls _ _ _).mono ?_); rintro e w2 ⟨rfl, hA, hb2⟩))
  have hBB := below_step hb1 hb2
  have hg := hb1.size
  obtain ⟨g, hgg⟩ : ∃ g, g = w1.heap.size := ⟨_, rfl⟩
  rw [← hgg] at hA hg ⊢
  have HX := Aside0.mk (show FitS (fresh B 16) B B 0 0 ∧ At w2 g (fresh B 16) from ⟨fitS_fresh B hB0.1 (by omega), hA⟩)
  have HL := Aside0.mk hl
  clear hb1 hb2 hgg hl hA hB
  go_wp2
  go_loopg [7, 8, 9] 17 (fun kq v7 v8 v9 wr => ∃ (i n : Nat) (left : Int), v9 = .int .i64 (i : Int) ∧ v8 = .int .i64 (n : Int) ∧ v7 = .int .i64 left ∧ Aside0 (∃ s, kq + i = 17 ∧ i ≤ l.length ∧ i ≤ 16 ∧ FitS s B left n i ∧ At wr g s ∧ Below w.heap.size w wr))
  case atStart => exact ⟨0, 0, B, rfl, rfl, rfl, ⟨_, by omega, by omega, by omega, HX.out.1, HX.out.2, hBB⟩⟩
  case round =>
    clear HX hBB
    obtain ⟨i, n, left, rfl, rfl, rfl, hR⟩ := hrel
    obtain ⟨s, hk, hi1, hi2, hs, ha, hbw⟩ := hR.out
    have HS := Aside0.mk hs
    have HB := Aside0.mk hbw
    have HA := Aside0.mk ha
    have hni := hs.ni
    have hl0 := hs.l0
    have hlB := hs.lB
    by_cases hlt : i < l.length ∧ i < 16
    · obtain ⟨hlt1, hlt2⟩ := hlt
      have hlr := HL.out.below hbw
      obtain ⟨ad, rfl, c0⟩ := hlr.at_ (i : Int) (by omega) (by omega)
      simp only [Int.toNat_natCast] at c0
      have p1 : (0 ≤ (i : Int)) = True := eq_true (by omega)
      have p2 : ((i : Int) < (l.length : Int)) = True := eq_true (by omega)
      have p3 : (i : Int) < 16 := by omega
      generalize rd l (i : Int) = z at c0
      obtain ⟨M, hM⟩ : ∃ d, bits .and .i64 z 2097151 = d := ⟨_, rfl⟩
      have hM0 : 0 ≤ M := by
        rw [← hM]
        have h2 : bits .and .i64 z 2097151 = z % 2097152 := Plain.and_mask z 21 (by omega)
        rw [h2]; omega
      have he := hs.err hlt2 hM0
      clear hR ha hbw hlr
      by_cases hbig : B < M
      · rw [if_pos hbig] at he
        have hll : left < M := by omega
        have hno := hs.no (M := M) (by rw [he]; decide)
        have TE := Aside0.mk he
        have TN := Aside0.mk hno.1
        have TF := Aside0.mk hno.2
        have NR := Aside0.mk (show (takeSt s i M).budget - (takeSt s i M).used = left by rw [hno.2.b, hno.2.u]; omega)
        have NU := Aside0.mk (show (takeSt s i M).used = B - left from hno.2.u)
        have NL := Aside0.mk (show Ld.slots (takeSt s i M) = 16 - (n : Int) from hno.2.sl)
        clear hno he hs
        go_wp2_with (first
          | (go_at_call 26; (with_reducible refine (Take_r HS.out.inv TN.out TE.out _ ?ha).mono ?_); (case ha => exact HA.out); rintro e w5 ⟨rfl, hA5, hT⟩; have A5 := Aside0.mk hA5; have B5 := Aside0.mk (hT.below HB.out hg (Nat.le_refl _)); clear hA5 hT)
          | (go_at_call 34; (with_reducible refine (RoomI_r TF.out.inv NR.out _ ?ha).mono ?_); (case ha => exact A5.out); rintro e w6 ⟨rfl, hd⟩; have A6 := Aside0.mk (A5.out.drawn hd); have B6 := Aside0.mk (below_step B5.out hd.below); clear hd)
          | (go_at_call 32; (with_reducible refine (Used_r NU.out _ ?ha).mono ?_); (case ha => exact A6.out); rintro e w7 ⟨rfl, hd⟩; have A7 := Aside0.mk (A6.out.drawn hd); have B7 := Aside0.mk (below_step B6.out hd.below); clear hd)
          | (go_at_call 35; (with_reducible refine (Slots_r TF.out.inv NL.out _ ?ha).mono ?_); (case ha => exact A7.out); rintro e w8 ⟨rfl, hb⟩; have A8 := Aside0.mk (A7.out.below hb); have B8 := Aside0.mk (below_step B7.out hb); clear hb))
        go_roundg (gk - 1)
        case measure => omega
        case rel => exact ⟨i + 1, n, left, rfl, rfl, rfl, ⟨_, by omega, by omega, by omega, TF.out, A8.out, B8.out⟩⟩
      · by_cases hll : left < M
        · rw [if_neg hbig, if_pos hll] at he
          have hno := hs.no (M := M) (by rw [he]; decide)
          have TE := Aside0.mk he
          have TN := Aside0.mk hno.1
          have TF := Aside0.mk hno.2
          have NR := Aside0.mk (show (takeSt s i M).budget - (takeSt s i M).used = left by rw [hno.2.b, hno.2.u]; omega)
          have NU := Aside0.mk (show (takeSt s i M).used = B - left from hno.2.u)
          have NL := Aside0.mk (show Ld.slots (takeSt s i M) = 16 - (n : Int) from hno.2.sl)
          clear hno he hs
          go_wp2_with (first
          | (go_at_call 26; (with_reducible refine (Take_r HS.out.inv TN.out TE.out _ ?ha).mono ?_); (case ha => exact HA.out); rintro e w5 ⟨rfl, hA5, hT⟩; have A5 := Aside0.mk hA5; have B5 := Aside0.mk (hT.below HB.out hg (Nat.le_refl _)); clear hA5 hT)
          | (go_at_call 34; (with_reducible refine (RoomI_r TF.out.inv NR.out _ ?ha).mono ?_); (case ha => exact A5.out); rintro e w6 ⟨rfl, hd⟩; have A6 := Aside0.mk (A5.out.drawn hd); have B6 := Aside0.mk (below_step B5.out hd.below); clear hd)
          | (go_at_call 32; (with_reducible refine (Used_r NU.out _ ?ha).mono ?_); (case ha => exact A6.out); rintro e w7 ⟨rfl, hd⟩; have A7 := Aside0.mk (A6.out.drawn hd); have B7 := Aside0.mk (below_step B6.out hd.below); clear hd)
          | (go_at_call 35; (with_reducible refine (Slots_r TF.out.inv NL.out _ ?ha).mono ?_); (case ha => exact A7.out); rintro e w8 ⟨rfl, hb⟩; have A8 := Aside0.mk (A7.out.below hb); have B8 := Aside0.mk (below_step B7.out hb); clear hb))
          go_roundg (gk - 1)
          case measure => omega
          case rel => exact ⟨i + 1, n, left, rfl, rfl, rfl, ⟨_, by omega, by omega, by omega, TF.out, A8.out, B8.out⟩⟩
        · rw [if_neg hbig, if_neg hll] at he
          have hyes := hs.yes hlt2 hM0 he (by omega)
          have TE := Aside0.mk he
          have TN := Aside0.mk hyes.1
          have TF := Aside0.mk hyes.2
          have NR := Aside0.mk (show (takeSt s i M).budget - (takeSt s i M).used = left - M by rw [hyes.2.b, hyes.2.u]; omega)
          have NU := Aside0.mk (show (takeSt s i M).used = B - (left - M) from hyes.2.u)
          have NL := Aside0.mk (show Ld.slots (takeSt s i M) = 16 - ((n : Int) + 1) from hyes.2.sl)
          clear hyes he hs
          go_wp2_with (first
          | (go_at_call 26; (with_reducible refine (Take_r HS.out.inv TN.out TE.out _ ?ha).mono ?_); (case ha => exact HA.out); rintro e w5 ⟨rfl, hA5, hT⟩; have A5 := Aside0.mk hA5; have B5 := Aside0.mk (hT.below HB.out hg (Nat.le_refl _)); clear hA5 hT)
          | (go_at_call 34; (with_reducible refine (RoomI_r TF.out.inv NR.out _ ?ha).mono ?_); (case ha => exact A5.out); rintro e w6 ⟨rfl, hd⟩; have A6 := Aside0.mk (A5.out.drawn hd); have B6 := Aside0.mk (below_step B5.out hd.below); clear hd)
          | (go_at_call 32; (with_reducible refine (Used_r NU.out _ ?ha).mono ?_); (case ha => exact A6.out); rintro e w7 ⟨rfl, hd⟩; have A7 := Aside0.mk (A6.out.drawn hd); have B7 := Aside0.mk (below_step B6.out hd.below); clear hd)
          | (go_at_call 35; (with_reducible refine (Slots_r TF.out.inv NL.out _ ?ha).mono ?_); (case ha => exact A7.out); rintro e w8 ⟨rfl, hb⟩; have A8 := Aside0.mk (A7.out.below hb); have B8 := Aside0.mk (below_step B7.out hb); clear hb))
          go_roundg (gk - 1)
          case measure => omega
          case rel => exact ⟨i + 1, n + 1, left - M, rfl, rfl, rfl, ⟨_, by omega, by omega, by omega, TF.out, A8.out, B8.out⟩⟩
    · have hd : ¬ i < l.length ∨ (i < l.length ∧ (16 : Int) ≤ (i : Int)) := by omega
      clear hR hs ha hbw hlt
      rcases hd with b1 | ⟨b1, b2⟩
      · go_wp2
        go_ret
        exact ⟨rfl, HB.out⟩
      · have n2 : ¬ (i : Int) < 16 := by omega
        go_wp2
        go_ret
        exact ⟨rfl, HB.out⟩
end Go.Proofs.Ytkldfjlbgmppfab.Ld
