import Derived.Test.YtkldfjlbgmppfabLs
import Derived.Test.YtkldfjlbgmppfabLp3
import Derived.Test.YtkldfjlbgmppfabPlain
import Derived.StillTailTactics
namespace Go.Proofs.Ytkldfjlbgmppfab.Ld
open Go.RowKit Go.Proofs.YtkldfjlbgmppfabW.PrintWords Go.Proofs.YtkldfjlbgmppfabW.PrintLast Go.Proofs.YtkldfjlbgmppfabW.PrintMore
set_option linter.unusedVariables false
set_option linter.unusedSimpArgs false
attribute [local go_sem] max2_int min2_int max_two min_two
set_option maxHeartbeats 8000000 in
set_option maxRecDepth 100000 in
theorem Lowest_calls (sl : Int) (A : Option Addr) (l : List S37) (c : Nat) (w : World) (hl : Kd.C k37 w A l.length l) :
    Calls Try.prog 7 #[.int .i64 sl, .slice A l.length c] w fun e w' => e = .returned (.bool true) ∧ Below w.heap.size w w' := by
  obtain ⟨m, hm⟩ : ∃ m, bits .and .i64 sl 65535 = m := ⟨_, rfl⟩
  have hm0 : 0 ≤ m ∧ m < 65536 := by rw [← hm, Plain.and_65535]; omega
  go_enter Try.func7, Try.ntmps7
  go_upto_block 0 with (first
    | (go_at_call 24; (with_reducible refine (shown_calls _).mono ?_); rintro e w1 ⟨rfl, hb1⟩)
    | (go_at_call 25; (with_reducible refine (New_calls _ _ _).mono ?_); rintro e w2 ⟨rfl, hA, hb2⟩))
  have hBB := below_step hb1 hb2
  have hg := hb1.size
  obtain ⟨g, hgg⟩ : ∃ g, g = w1.heap.size := ⟨_, rfl⟩
  rw [← hgg] at hA hg ⊢
  have hX : ∃ s, Inv s ∧ s.budget = 0 ∧ At w2 g s := ⟨_, inv_fresh _ _ (by omega), rfl, hA⟩
  have HX := Aside0.mk hX
  have HL := Aside0.mk hl
  clear hb1 hb2 hgg hl hA hX hm hm0
  go_wp2
  go_loopg [7] 101 (fun kq v7 wr => ∃ i : Nat, v7 = .int .i64 (i : Int) ∧ Aside0 (∃ s, kq + i = 101 ∧ i ≤ l.length ∧ i ≤ 100 ∧ Inv s ∧ s.budget = 0 ∧ At wr g s ∧ Below w.heap.size w wr))
  case atStart =>
    obtain ⟨s, h1, h2, h3⟩ := HX.out
    exact ⟨0, rfl, ⟨s, by omega, by omega, by omega, h1, h2, h3, hBB⟩⟩
  case round =>
    clear HX hBB
    obtain ⟨i, rfl, hR⟩ := hrel
    obtain ⟨s, hk, hi1, hi2, hs, hS, ha, hbw⟩ := hR.out
    have HS := Aside0.mk hs
    have HSS := Aside0.mk hS
    have HB := Aside0.mk hbw
    have HA := Aside0.mk ha
    by_cases hlt : i < l.length ∧ i < 100
    · obtain ⟨hlt1, hlt2⟩ := hlt
      have hlr := Kd.C_below HL.out hbw
      obtain ⟨ad, rfl, c0, c1, c2⟩ := at_step hlr (i : Int) (by omega) (by omega)
      simp only [Int.toNat_natCast] at c0 c1 c2
      have p1 : (0 ≤ (i : Int)) = True := eq_true (by omega)
      have p2 : ((i : Int) < (l.length : Int)) = True := eq_true (by omega)
      have p3 : (i : Int) < 100 := by omega
      generalize rds l (i : Int) = z at c0 c1 c2
      obtain ⟨d, hd⟩ : ∃ d, bits .and .i64 z.f1 255 = d := ⟨_, rfl⟩
      have hd0 : 0 ≤ d ∧ d ≤ 255 := by
        rw [← hd]
        have := Plain.and_mask z.f1 8 (by omega)
        have h2 : bits .and .i64 z.f1 255 = z.f1 % 256 := this
        rw [h2]; omega
      have HD0 := Aside0.mk hd0.1
      have hlow := lowest hs hS hd0.1
      have hsl := slots_le hs
      clear hR hs hS hbw ha hlr hd0
      by_cases hz : z.f0 = 3
      · have hz2 : (z.f0 == 3) = true := by simp [hz]
        clear hlow hsl
        go_wp2_with (go_at_call 28; (with_reducible refine (Free_r HS.out rfl _ ?ha).mono ?_); (case ha => exact HA.out); rintro e w5 ⟨rfl, hA5, hT⟩; have H5 := Aside0.mk hA5; have B5 := Aside0.mk (hT.below HB.out hg (Nat.le_refl _)); clear hA5 hT)
        go_roundg (gk - 1)
        case measure => omega
        case rel => exact ⟨i + 1, rfl, ⟨_, by omega, by omega, by omega, inv_free HS.out _, (free_budget _ _).trans HSS.out, H5.out, B5.out⟩⟩
      · have hz2 : (z.f0 == 3) = false := by simp [hz]
        obtain ⟨a, ea⟩ : ∃ a, slotI s d = a := ⟨_, rfl⟩
        obtain ⟨f, ef⟩ : ∃ f, Ld.slots s = f := ⟨_, rfl⟩
        rw [ef] at hlow hsl
        have EA := Aside0.mk ea
        have EF := Aside0.mk ef
        clear ea ef
        by_cases he : takeErr s d 0 = 0
        · obtain ⟨n, hT⟩ := took HS.out he
          obtain ⟨f0, hb⟩ := hlow.1 he
          have EB := Aside0.mk hb
          have TE := Aside0.mk he
          have TN := Aside0.mk hT.slot
          have TL := Aside0.mk (took_low hT)
          have hn := hT.lt
          have hmm := HS.out.many
          clear hlow hb he hT
          go_wp2_with (first
            | (go_at_call 35; (with_reducible refine (Slots_r HS.out EF.out _ ?ha).mono ?_); (case ha => exact HA.out); rintro e w3 ⟨rfl, hb⟩; have A3 := Aside0.mk (HA.out.below hb); have B3 := Aside0.mk (below_step HB.out hb); clear hb)
            | (go_at_call 30; (with_reducible refine (Slot_r EA.out EB.out HS.out.many _ ?ha).mono ?_); (case ha => exact A3.out); rintro e w4 ⟨rfl, hb⟩; have A4 := Aside0.mk (A3.out.below hb); have B4 := Aside0.mk (below_step B3.out hb); clear hb)
            | (go_at_call 26; (with_reducible refine (Take_r HS.out TN.out TE.out _ ?ha).mono ?_); (case ha => exact A4.out); rintro e w5 ⟨rfl, hA5, hT⟩; have A5 := Aside0.mk hA5; have B5 := Aside0.mk (hT.below B4.out hg (Nat.le_refl _)); clear hA5 hT))
          obtain ⟨gi, hgi⟩ : ∃ q, q = gk := ⟨_, rfl⟩
          have HGI := Aside0.mk hgi
          clear hgi
          go_loopg [14] 17 (fun kq v14 wr => ∃ k : Nat, v14 = .int .i64 (k : Int) ∧ Aside0 (kq + k = 17 ∧ k ≤ n + 1 ∧ At wr g (takeSt s d 0) ∧ Below w.heap.size w wr))
          case atStart => exact ⟨0, rfl, ⟨by omega, by omega, A5.out, B5.out⟩⟩
          case round =>
            obtain ⟨k, rfl, hC⟩ := hrel
            obtain ⟨hk2, hkn, hak, hbk⟩ := hC.out
            have HAK := Aside0.mk hak
            have HBK := Aside0.mk hbk
            clear hC hak hbk
            by_cases hkl : k ≤ n
            · have hh := Aside0.mk (TL.out k hkl)
              go_wp2_with (go_at_call 37; (with_reducible refine (At_r (inv_take HS.out _ _) rfl hh.out _ ?ha).mono ?_); (case ha => exact HAK.out); rintro e w6 ⟨rfl, hb⟩; have A6 := Aside0.mk (HAK.out.below hb); have B6 := Aside0.mk (below_step HBK.out hb); clear hb)
              go_roundg (gk - 1)
              case measure => omega
              case rel => exact ⟨k + 1, rfl, ⟨by omega, by omega, A6.out, B6.out⟩⟩
            · clear p1 p2 c0 c1 c2
              go_wp2
              go_roundg (gi - 1)
              case measure => have := HGI.out; omega
              case rel => exact ⟨i + 1, rfl, ⟨_, by have := HGI.out; omega, by omega, by omega, inv_take HS.out _ _, (take_budget _ _ _).trans HSS.out, HAK.out, HBK.out⟩⟩
        · obtain ⟨n0, n1⟩ := take_no he
          have hno : ¬ (0 < f ∧ slotB s d = false) := fun hh => he (hlow.2 hh)
          obtain ⟨b, eb⟩ : ∃ b, slotB s d = b := ⟨_, rfl⟩
          rw [eb] at hno
          obtain ⟨er, eer⟩ : ∃ er, takeErr s d 0 = er := ⟨_, rfl⟩
          rw [eer] at he
          have he2 : (er == 0) = false := by simpa using he
          have EB := Aside0.mk eb
          have TE := Aside0.mk eer
          have TN := Aside0.mk n0
          have TS := Aside0.mk n1
          have hcase : (0 < f ∧ b = true) ∨ f = 0 := by
            rcases Int.lt_or_le 0 f with h | h
            · left; refine ⟨h, ?_⟩; cases b
              · exact absurd ⟨h, rfl⟩ hno
              · rfl
            · right; omega
          clear hlow eb eer n0 n1 hno he
          rcases hcase with ⟨f0, rfl⟩ | rfl
          all_goals
            go_wp2_with (first
              | (go_at_call 35; (with_reducible refine (Slots_r HS.out EF.out _ ?ha).mono ?_); (case ha => exact HA.out); rintro e w3 ⟨rfl, hb⟩; have A3 := Aside0.mk (HA.out.below hb); have B3 := Aside0.mk (below_step HB.out hb); clear hb)
              | (go_at_call 30; (with_reducible refine (Slot_r EA.out EB.out HS.out.many _ ?ha).mono ?_); (case ha => exact A3.out); rintro e w4 ⟨rfl, hb⟩; have A4 := Aside0.mk (A3.out.below hb); have B4 := Aside0.mk (below_step B3.out hb); clear hb)
              | (go_at_call 26; (with_reducible refine (Take_r HS.out TN.out TE.out _ ?ha).mono ?_); (case ha => exact A4.out); rintro e w5 ⟨rfl, hA5, hT⟩; have A5 := Aside0.mk hA5; have B5 := Aside0.mk (hT.below B4.out hg (Nat.le_refl _)); clear hA5 hT))
            go_roundg (gk - 1)
            case measure => omega
            case rel => exact ⟨i + 1, rfl, ⟨_, by omega, by omega, by omega, inv_take HS.out _ _, (take_budget _ _ _).trans HSS.out, A5.out, B5.out⟩⟩
    · have hd : ¬ i < l.length ∨ (i < l.length ∧ (100 : Int) ≤ (i : Int)) := by omega
      clear hR hs hS hbw ha hlt
      rcases hd with b1 | ⟨b1, b2⟩
      · go_wp2
        go_ret
        exact ⟨rfl, HB.out⟩
      · have n2 : ¬ (i : Int) < 100 := by omega
        go_wp2
        go_ret
        exact ⟨rfl, HB.out⟩
end Go.Proofs.Ytkldfjlbgmppfab.Ld
