import Derived.Test.YtkldfjlbgmppfabLs
import Derived.Test.YtkldfjlbgmppfabLp2
import Derived.StillTailTactics
namespace Go.Proofs.Ytkldfjlbgmppfab.Ld
open Go.RowKit Go.Proofs.YtkldfjlbgmppfabW.PrintWords Go.Proofs.YtkldfjlbgmppfabW.PrintLast Go.Proofs.YtkldfjlbgmppfabW.PrintMore
set_option linter.unusedVariables false
set_option linter.unusedSimpArgs false
attribute [local go_sem] max2_int min2_int max_two min_two

def kth (f : Bool) (i : Nat) : Nat := if f then 15 - i else i
set_option maxHeartbeats 8000000 in
set_option maxRecDepth 100000 in
theorem Empties_calls (budget sl : Int) (hbud : budget ≤ 9223372036854775807) (A : Option Addr) (l : List S37) (c : Nat) (falling : Bool) (w : World) (hl : Kd.C k37 w A l.length l) :
    Calls Try.prog 10 #[.int .i64 budget, .int .i64 sl, .slice A l.length c, .bool falling] w fun e w' => e = .returned (.bool true) ∧ Below w.heap.size w w' := by
  go_enter Try.func10, Try.ntmps10
  go_upto_block 0 with (first
    | (go_at_call 24; (with_reducible refine (shown_calls _).mono ?_); rintro e w1 ⟨rfl, hb1⟩)
    | (go_at_call 25; (with_reducible refine (New_calls _ _ _).mono ?_); rintro e w2 ⟨rfl, hA, hb2⟩))
  have hBB := below_step hb1 hb2
  have hg := hb1.size
  obtain ⟨g, hgg⟩ : ∃ g, g = w1.heap.size := ⟨_, rfl⟩
  rw [← hgg] at hA hg ⊢
  have HI := Aside0.mk (inv_fresh budget sl hbud)
  have HL := Aside0.mk hl
  clear hb1 hb2 hgg hl
  go_cut [11] (fun vs wc => Aside0 (∃ s, Inv s ∧ (s.many = (fresh budget sl).many ∧ s.budget = (fresh budget sl).budget) ∧ At wc g s ∧ Below w.heap.size w wc))
  case first =>
    go_wp2
    go_loopg [11] 101 (fun kq vs wr => ∃ i : Nat, vs = .int .i64 (i : Int) ∧ Aside0 (∃ s, kq + i = 101 ∧ i ≤ l.length ∧ i ≤ 100 ∧ Inv s ∧ (s.many = (fresh budget sl).many ∧ s.budget = (fresh budget sl).budget) ∧ At wr g s ∧ Below w.heap.size w wr))
    case atStart => exact ⟨0, rfl, ⟨_, by omega, by omega, by omega, HI.out, ⟨rfl, rfl⟩, hA, hBB⟩⟩
    case round =>
      obtain ⟨i, rfl, hR⟩ := hrel
      obtain ⟨s, hk, hi1, hi2, hs, hS, ha, hbw⟩ := hR.out
      have HS := Aside0.mk hs
      have HSS := Aside0.mk hS
      have HB := Aside0.mk hbw
      have HA := Aside0.mk ha
      by_cases hlt : i < l.length ∧ i < 100
      · obtain ⟨hlt1, hlt2⟩ := hlt
        have hlr := Kd.C_below HL.out hbw
        obtain ⟨ad, rfl, c0, c1, c2⟩ := at_step hlr (i : Int) (by omega) (by omega)
        simp only [Int.toNat_natCast] at c0 c1 c2
        have p1 : (0 ≤ (i : Int)) = True := eq_true (by omega)
        have p2 : ((i : Int) < (l.length : Int)) = True := eq_true (by omega)
        have p3 : (i : Int) < 100 := by omega
        generalize rds l (i : Int) = z at c0 c1 c2
        clear hR hs hS hbw ha hA hBB hlr
        by_cases hz : z.f0 = 3
        · have hz2 : (z.f0 == 3) = true := by simp [hz]
          go_wp2_with (go_at_call 28; (with_reducible refine (Free_r HS.out rfl _ ?ha).mono ?_); (case ha => exact HA.out); rintro e w5 ⟨rfl, hA5, hT⟩; have H5 := Aside0.mk hA5; have B5 := Aside0.mk (hT.below HB.out hg (Nat.le_refl _)); clear hA5 hT)
          go_roundg (gk - 1)
          case measure => omega
          case rel => exact ⟨i + 1, rfl, ⟨_, by omega, by omega, by omega, inv_free HS.out _, ⟨(free_many _ _).trans HSS.out.1, (free_budget _ _).trans HSS.out.2⟩, H5.out, B5.out⟩⟩
        · have hz2 : (z.f0 == 3) = false := by simp [hz]
          go_wp2
          go_still_tail 11, (by kernel_rfl)
          go_wp2_with (go_at_call 26; (with_reducible refine (Take_r HS.out rfl rfl _ ?ha).mono ?_); (case ha => exact HA.out); rintro e w5 ⟨rfl, hA5, hT⟩; have H5 := Aside0.mk hA5; have B5 := Aside0.mk (hT.below (pw_below_drewN HB.out _) hg (Nat.le_refl _)); clear hA5 hT)
          go_roundg (gk - 1)
          case measure => omega
          case rel => exact ⟨i + 1, rfl, ⟨_, by omega, by omega, by omega, inv_take HS.out _ _, ⟨(take_many _ _ _).trans HSS.out.1, (take_budget _ _ _).trans HSS.out.2⟩, H5.out, B5.out⟩⟩
      · have hd : ¬ i < l.length ∨ (i < l.length ∧ (100 : Int) ≤ (i : Int)) := by omega
        have HX := Aside0.mk (show ∃ s, Inv s ∧ (s.many = (fresh budget sl).many ∧ s.budget = (fresh budget sl).budget) ∧ At wr g s ∧ Below w.heap.size w wr from ⟨s, hs, hS, ha, hbw⟩)
        clear hR hs hS hbw ha hA hBB hlt
        rcases hd with b1 | ⟨b1, b2⟩
        · go_wp2
          go_meet
          exact HX
        · have n2 : ¬ (i : Int) < 100 := by omega
          go_wp2
          go_meet
          exact HX
  case rest =>
    obtain ⟨s, hs, hS, ha, hbw⟩ := hcut.out
    clear hBB hA hcut
    have HX := Aside0.mk (show ∃ s, Inv s ∧ (s.many = (fresh budget sl).many ∧ s.budget = (fresh budget sl).budget) ∧ At wc g s ∧ Below w.heap.size w wc from ⟨s, hs, hS, ha, hbw⟩)
    clear hs hS ha hbw
    go_upto_block 2 with (fail)
    go_cut [12] (fun vs wz => Aside0 (∃ s, Inv s ∧ (s.many = (fresh budget sl).many ∧ s.budget = (fresh budget sl).budget) ∧ (∀ j, j < 16 → (s.p j).held = false) ∧ At wz g s ∧ Below w.heap.size w wz))
    case first =>
      go_wp2
      go_loopg [12] 17 (fun kq vs wr => ∃ i : Nat, vs = .int .i64 (i : Int) ∧ Aside0 (∃ s, kq + i = 17 ∧ i ≤ 16 ∧ Inv s ∧ (s.many = (fresh budget sl).many ∧ s.budget = (fresh budget sl).budget) ∧ (∀ j, j < i → (s.p (kth falling j)).held = false) ∧ At wr g s ∧ Below w.heap.size w wr))
      case atStart =>
        obtain ⟨s, hs, hS, ha, hbw⟩ := HX.out
        exact ⟨0, rfl, ⟨s, by omega, by omega, hs, hS, fun j hj => by omega, ha, hbw⟩⟩
      case round =>
        obtain ⟨i, rfl, hR⟩ := hrel
        obtain ⟨s, hk, hi, hs, hS, hall, ha, hbw⟩ := hR.out
        have HS := Aside0.mk hs
        have HSS := Aside0.mk hS
        have HALL := Aside0.mk hall
        have HA := Aside0.mk ha
        have HB := Aside0.mk hbw
        clear hR hs hS hall ha hbw
        by_cases hlt : i < 16
        · have hlt1 : (i : Int) < 16 := by omega
          have hK : Aside0 (∀ j, j < i → kth falling j ≠ kth falling i) := ⟨fun j hj => by unfold kth; split <;> omega⟩
          have HE := Aside0.mk (empties HS.out (k := kth falling i))
          have HAB := Aside0.mk (atB_held HS.out (kth falling i))
          have HAI := Aside0.mk (atI_id HS.out (kth falling i))
          have hkv : Aside0 (((kth falling i : Nat) : Int) = if falling then 15 - (i : Int) else (i : Int)) := ⟨by unfold kth; split <;> omega⟩
          have hnext : Aside0 (∀ s' : Led, (∀ m, (s'.p m).held = true → (s.p m).held = true) → (s'.p (kth falling i)).held = false → ∀ j, j < i + 1 → (s'.p (kth falling j)).held = false) := ⟨by
            intro s' h1 h2 j hj
            by_cases hji : j = i
            · subst hji; exact h2
            · cases hh : (s'.p (kth falling j)).held
              · rfl
              · have := h1 _ hh; rw [HALL.out j (by omega)] at this; cases this⟩
          cases hb : (s.p (kth falling i)).held
          · cases falling
            all_goals
              have HB1 := Aside0.mk (HAB.out.trans hb)
              have HN := Aside0.mk hb
              rw [hkv.out] at HB1
              simp only [if_true, if_false, Bool.false_eq_true] at HB1
              clear hb
              go_wp2_with (go_at_call 37; (with_reducible refine (At_r HS.out rfl HB1.out _ ?ha).mono ?_); (case ha => exact HA.out); rintro e w3 ⟨rfl, hb3⟩; have A3 := Aside0.mk (HA.out.below hb3); have B3 := Aside0.mk (below_step HB.out hb3); clear hb3)
              go_roundg (gk - 1)
              case measure => omega
              case rel => exact ⟨i + 1, rfl, ⟨s, by omega, by omega, HS.out, HSS.out, hnext.out s (fun _ h => h) HN.out, A3.out, B3.out⟩⟩
          · obtain ⟨he0, hE⟩ := HE.out hb
            have HN := Aside0.mk hE
            obtain ⟨a, ea⟩ : ∃ a, (s.p (kth falling i)).id = a := ⟨_, rfl⟩
            rw [ea] at he0
            have HE0 := Aside0.mk he0
            have HEA := Aside0.mk ea
            have HA1 := Aside0.mk (HAI.out.trans ea)
            have HB1 := Aside0.mk (HAB.out.trans hb)
            clear hb hE he0 ea
            cases falling
            all_goals
              rw [hkv.out] at HB1 HA1
              simp only [if_true, if_false, Bool.false_eq_true] at HB1 HA1
              go_wp2_with (first
                | (go_at_call 37; (with_reducible refine (At_r HS.out HA1.out HB1.out _ ?ha).mono ?_); (case ha => exact HA.out); rintro e w3 ⟨rfl, hb3⟩; have A3 := Aside0.mk (HA.out.below hb3); have B3 := Aside0.mk (below_step HB.out hb3); clear hb3)
                | (go_at_call 28; (with_reducible refine (Free_r HS.out HE0.out _ ?ha).mono ?_); (case ha => exact A3.out); rintro e w5 ⟨rfl, hA5, hT⟩; have H5 := Aside0.mk hA5; have B5 := Aside0.mk (hT.below B3.out hg (Nat.le_refl _)); clear hA5 hT))
              go_roundg (gk - 1)
              case measure => omega
              case rel =>
                have hN := HN.out
                rw [HEA.out] at hN
                refine ⟨i + 1, rfl, ⟨_, by omega, by omega, inv_free HS.out _, ⟨(free_many _ _).trans HSS.out.1, (free_budget _ _).trans HSS.out.2⟩, hnext.out _ (fun m h => (hN m h).1) ?_, H5.out, B5.out⟩⟩
                cases hh : ((freeSt s a).p (kth _ i)).held
                · rfl
                · exact absurd rfl (hN _ hh).2
        · have hi16 : i = 16 := by omega
          have HN : Aside0 (∀ j, j < 16 → (s.p j).held = false) := ⟨by
            intro j hj
            have h2 := HALL.out (if falling then 15 - j else j) (by split <;> omega)
            have h3 : kth falling (if falling then 15 - j else j) = j := by unfold kth; cases falling <;> simp <;> omega
            rw [h3] at h2; exact h2⟩
          have hX2 := Aside0.mk (show ∃ s, Inv s ∧ (s.many = (fresh budget sl).many ∧ s.budget = (fresh budget sl).budget) ∧ (∀ j, j < 16 → (s.p j).held = false) ∧ At wr g s ∧ Below w.heap.size w wr from ⟨s, HS.out, HSS.out, HN.out, HA.out, HB.out⟩)
          have n2 : ¬ (i : Int) < 16 := by omega
          clear hi16
          go_wp2
          go_meet
          exact hX2
    case rest =>
      obtain ⟨s, hs, hS, hall, ha, hbw⟩ := hcut.out
      obtain ⟨u0, s0, t0, t1, t2⟩ := empty_led hs hall
      have hm := fresh_many budget sl
      rw [← hS.1] at hm
      have hbg : s.budget = Ld.pos budget := hS.2
      rw [hbg] at t0 t1 t2
      have hroom : s.budget - s.used = Ld.pos budget := by rw [hbg, u0]; omega
      have HS := Aside0.mk hs
      have HA := Aside0.mk ha
      have HB := Aside0.mk hbw
      have U0 := Aside0.mk u0
      have T0 := Aside0.mk t0
      have hmm : 0 < s.many ∧ takeErr s 7 (Ld.pos budget) = 0 ∨ s.many = 0 ∧ takeErr s 7 (Ld.pos budget) = 4 := by
        rcases Nat.eq_zero_or_pos s.many with h | h
        · exact .inr ⟨h, t2 h⟩
        · exact .inl ⟨h, t1 h⟩
      clear hs hS hall ha hbw hcut HX u0 t0 t1 t2 hbg
      have hp : Ld.pos budget = if budget < 0 then 0 else budget := rfl
      have hq : Ld.pos sl = if sl < 0 then 0 else sl := rfl
      rw [s0.symm] at hm
      generalize hM : s.many = M at hmm s0
      rcases hmm with ⟨hmp, hte⟩ | ⟨hmp, hte⟩
      all_goals
        by_cases hb0 : budget < 0
        all_goals
          first | rw [if_pos hb0] at hp | rw [if_neg hb0] at hp
          by_cases hs0 : sl < 0
          · rw [if_pos hs0] at hq
            rw [hq, if_neg (by omega)] at hm
            rw [hp] at hte hroom T0
            have TE := Aside0.mk hte
            have TR := Aside0.mk hroom
            have TM := Aside0.mk hm
            have hsm : (M : Int) = Ld.slots s := s0.symm
            rw [hm] at hsm
            try (exfalso; omega)
            all_goals
              first | (have z : 0 < sl := by omega) | (have z : decide (0 < sl) = false := by simp; omega)
              clear hte hroom hm s0 hp hq hM hsm
              go_wp2_with (first
                | (go_at_call 32; (with_reducible refine (Used_r U0.out _ ?ha).mono ?_); (case ha => exact HA.out); rintro e w4 ⟨rfl, hd⟩; have A4 := Aside0.mk (HA.out.drawn hd); have B4 := Aside0.mk (below_step HB.out hd.below); clear hd)
                | (go_at_call 34; (with_reducible refine (RoomI_r HS.out TR.out _ ?ha).mono ?_); (case ha => exact A4.out); rintro e w5 ⟨rfl, hd⟩; have A5 := Aside0.mk (A4.out.drawn hd); have B5 := Aside0.mk (below_step B4.out hd.below); clear hd)
                | (go_at_call 35; (with_reducible refine (Slots_r HS.out TM.out _ ?ha).mono ?_); (case ha => exact A5.out); rintro e w6 ⟨rfl, hb6⟩; have A6 := Aside0.mk (A5.out.below hb6); have B6 := Aside0.mk (below_step B5.out hb6); clear hb6)
                | (go_at_call 26; (with_reducible refine (Take_r HS.out T0.out TE.out _ ?ha).mono ?_); (case ha => exact A6.out); rintro e w7 ⟨rfl, hA7, hT7⟩; have B7 := Aside0.mk (hT7.below B6.out hg (Nat.le_refl _)); clear hA7 hT7))
              go_ret
              exact ⟨rfl, B7.out⟩
          · rw [if_neg hs0] at hq
            by_cases hs1 : 16 < sl
            · rw [hq, if_pos hs1] at hm
              rw [hp] at hte hroom T0
              have TE := Aside0.mk hte
              have TR := Aside0.mk hroom
              have TM := Aside0.mk hm
              have hsm : (M : Int) = Ld.slots s := s0.symm
              rw [hm] at hsm
              try (exfalso; omega)
              all_goals
                first | (have z : 0 < sl := by omega) | (have z : decide (0 < sl) = false := by simp; omega)
                clear hte hroom hm s0 hp hq hM hsm
                go_wp2_with (first
                  | (go_at_call 32; (with_reducible refine (Used_r U0.out _ ?ha).mono ?_); (case ha => exact HA.out); rintro e w4 ⟨rfl, hd⟩; have A4 := Aside0.mk (HA.out.drawn hd); have B4 := Aside0.mk (below_step HB.out hd.below); clear hd)
                  | (go_at_call 34; (with_reducible refine (RoomI_r HS.out TR.out _ ?ha).mono ?_); (case ha => exact A4.out); rintro e w5 ⟨rfl, hd⟩; have A5 := Aside0.mk (A4.out.drawn hd); have B5 := Aside0.mk (below_step B4.out hd.below); clear hd)
                  | (go_at_call 35; (with_reducible refine (Slots_r HS.out TM.out _ ?ha).mono ?_); (case ha => exact A5.out); rintro e w6 ⟨rfl, hb6⟩; have A6 := Aside0.mk (A5.out.below hb6); have B6 := Aside0.mk (below_step B5.out hb6); clear hb6)
                  | (go_at_call 26; (with_reducible refine (Take_r HS.out T0.out TE.out _ ?ha).mono ?_); (case ha => exact A6.out); rintro e w7 ⟨rfl, hA7, hT7⟩; have B7 := Aside0.mk (hT7.below B6.out hg (Nat.le_refl _)); clear hA7 hT7))
                go_ret
                exact ⟨rfl, B7.out⟩
            · rw [hq, if_neg hs1] at hm
              rw [hp] at hte hroom T0
              have TE := Aside0.mk hte
              have TR := Aside0.mk hroom
              have TM := Aside0.mk hm
              have hsm : (M : Int) = Ld.slots s := s0.symm
              rw [hm] at hsm
              try (exfalso; omega)
              all_goals
                first | (have z : 0 < sl := by omega) | (have z : decide (0 < sl) = false := by simp; omega)
                clear hte hroom hm s0 hp hq hM hsm
                go_wp2_with (first
                  | (go_at_call 32; (with_reducible refine (Used_r U0.out _ ?ha).mono ?_); (case ha => exact HA.out); rintro e w4 ⟨rfl, hd⟩; have A4 := Aside0.mk (HA.out.drawn hd); have B4 := Aside0.mk (below_step HB.out hd.below); clear hd)
                  | (go_at_call 34; (with_reducible refine (RoomI_r HS.out TR.out _ ?ha).mono ?_); (case ha => exact A4.out); rintro e w5 ⟨rfl, hd⟩; have A5 := Aside0.mk (A4.out.drawn hd); have B5 := Aside0.mk (below_step B4.out hd.below); clear hd)
                  | (go_at_call 35; (with_reducible refine (Slots_r HS.out TM.out _ ?ha).mono ?_); (case ha => exact A5.out); rintro e w6 ⟨rfl, hb6⟩; have A6 := Aside0.mk (A5.out.below hb6); have B6 := Aside0.mk (below_step B5.out hb6); clear hb6)
                  | (go_at_call 26; (with_reducible refine (Take_r HS.out T0.out TE.out _ ?ha).mono ?_); (case ha => exact A6.out); rintro e w7 ⟨rfl, hA7, hT7⟩; have B7 := Aside0.mk (hT7.below B6.out hg (Nat.le_refl _)); clear hA7 hT7))
                go_ret
                exact ⟨rfl, B7.out⟩
end Go.Proofs.Ytkldfjlbgmppfab.Ld
