import Derived.Test.YtkldfjlbgmppfabLs
import Derived.Test.YtkldfjlbgmppfabLm
import Derived.StillTailTactics
namespace Go.Proofs.Ytkldfjlbgmppfab.Ld
open Go.RowKit Go.Proofs.YtkldfjlbgmppfabW.PrintWords Go.Proofs.YtkldfjlbgmppfabW.PrintLast Go.Proofs.YtkldfjlbgmppfabW.PrintMore
set_option linter.unusedVariables false
set_option linter.unusedSimpArgs false
attribute [local go_sem] max2_int min2_int max_two min_two
set_option maxHeartbeats 8000000 in
set_option maxRecDepth 100000 in
theorem Bounds_calls (budget sl : Int) (hbud : budget ≤ 9223372036854775807) (A : Option Addr) (l : List S37) (c : Nat) (w : World) (hl : Kd.C k37 w A l.length l) :
    Calls Try.prog 5 #[.int .i64 budget, .int .i64 sl, .slice A l.length c] w fun e w' => e = .returned (.bool true) ∧ Below w.heap.size w w' := by
  go_enter Try.func5, Try.ntmps5
  go_upto_region 5 with (first
    | (go_at_call 24; (with_reducible refine (shown_calls _).mono ?_); rintro e w1 ⟨rfl, hb1⟩)
    | (go_at_call 25; (with_reducible refine (New_calls _ _ _).mono ?_); rintro e w2 ⟨rfl, hA, hb2⟩))
  have hBB := below_step hb1 hb2
  have hg := hb1.size
  obtain ⟨g, hgg⟩ : ∃ g, g = w1.heap.size := ⟨_, rfl⟩
  rw [← hgg] at hA hg ⊢
  obtain ⟨M, hM⟩ : ∃ M, (fresh budget sl).many = M := ⟨_, rfl⟩
  have hmv := fresh_many budget sl
  rw [hM] at hmv
  have HI := Aside0.mk (inv_fresh budget sl hbud)
  have HL := Aside0.mk hl
  have HM := Aside0.mk hM
  have HA := Aside0.mk hA
  have HB := Aside0.mk hBB
  clear hb1 hb2 hgg hl hA hBB hM
  go_cut [9] (fun v9 wc => v9 = .int .i64 (M : Int) ∧ wc = w2)
  case first =>
    have hq : Ld.pos sl = if sl < 0 then 0 else sl := rfl
    by_cases hs0 : sl < 0
    · rw [if_pos hs0] at hq
      rw [hq, if_neg (by omega)] at hmv
      have HV := Aside0.mk hmv
      clear hmv hq
      go_wp2
      go_meet
      exact ⟨by rw [HV.out], rfl⟩
    · rw [if_neg hs0] at hq
      by_cases hs1 : 16 < sl
      · rw [hq, if_pos hs1] at hmv
        have HV := Aside0.mk hmv
        clear hmv hq
        go_wp2
        go_meet
        exact ⟨by rw [HV.out], rfl⟩
      · rw [hq, if_neg hs1] at hmv
        have HV := Aside0.mk hmv
        clear hmv hq
        go_wp2
        go_meet
        exact ⟨by rw [HV.out], rfl⟩
  case rest =>
    obtain ⟨rfl, rfl⟩ := hcut
    clear hmv
    have hm16 : M ≤ 16 := by rw [← HM.out]; exact HI.out.many
    go_wp2
    obtain ⟨gm, hgm⟩ : ∃ q, q = wc.heap.size := ⟨_, rfl⟩
    have HX := Aside0.mk (show ∃ s, Inv s ∧ s.many = M ∧ s.budget = Ld.pos budget ∧ At (wc.alloc (.cells #[.int .i64 0, .int .i64 0, .int .i64 0, .int .i64 0, .int .i64 0, .int .i64 0, .int .i64 0, .int .i64 0, .int .i64 0, .int .i64 0, .int .i64 0, .int .i64 0, .int .i64 0, .int .i64 0, .int .i64 0, .int .i64 0] 44)) g s ∧ MemAt (wc.alloc (.cells #[.int .i64 0, .int .i64 0, .int .i64 0, .int .i64 0, .int .i64 0, .int .i64 0, .int .i64 0, .int .i64 0, .int .i64 0, .int .i64 0, .int .i64 0, .int .i64 0, .int .i64 0, .int .i64 0, .int .i64 0, .int .i64 0] 44)) wc.heap.size s.p ∧ Below w.heap.size w (wc.alloc (.cells #[.int .i64 0, .int .i64 0, .int .i64 0, .int .i64 0, .int .i64 0, .int .i64 0, .int .i64 0, .int .i64 0, .int .i64 0, .int .i64 0, .int .i64 0, .int .i64 0, .int .i64 0, .int .i64 0, .int .i64 0, .int .i64 0] 44)) from ⟨_, HI.out, HM.out, rfl, HA.out.below (below_alloc (Below.refl _ _) _), heap_alloc_new wc _, below_alloc HB.out _⟩)
    have hd : w.heap.size ≤ gm := by rw [hgm]; exact HB.out.size
    have HNE := Aside0.mk (show g ≠ gm by have := HA.out.lt; omega)
    rw [← hgm] at HX ⊢
    clear hgm HA HB HI HM
    go_loopg [11] 201 (fun kq v wr => ∃ i : Nat, v = .int .i64 (i : Int) ∧ Aside0 (∃ s, kq + i = 201 ∧ i ≤ l.length ∧ i ≤ 200 ∧ Inv s ∧ s.many = M ∧ s.budget = Ld.pos budget ∧ At wr g s ∧ MemAt wr gm s.p ∧ Below w.heap.size w wr))
    case atStart =>
      obtain ⟨s, h1, h2, h3, h4, h5, h6⟩ := HX.out
      exact ⟨0, rfl, ⟨s, by omega, by omega, by omega, h1, h2, h3, h4, h5, h6⟩⟩
    case round =>
      clear HX
      obtain ⟨i, rfl, hR⟩ := hrel
      obtain ⟨s, hk, hi1, hi2, hs, hsm, hsb, ha, hmm, hbw⟩ := hR.out
      have HS := Aside0.mk hs
      have HSM := Aside0.mk hsm
      have HSB := Aside0.mk hsb
      have HB := Aside0.mk hbw
      have HA := Aside0.mk ha
      have HMM := Aside0.mk hmm
      by_cases hlt : i < l.length ∧ i < 200
      · obtain ⟨hlt1, hlt2⟩ := hlt
        have hlr := Kd.C_below HL.out hbw
        obtain ⟨ad, rfl, c0, c1, c2⟩ := at_step hlr (i : Int) (by omega) (by omega)
        simp only [Int.toNat_natCast] at c0 c1 c2
        have p1 : (0 ≤ (i : Int)) = True := eq_true (by omega)
        have p2 : ((i : Int) < (l.length : Int)) = True := eq_true (by omega)
        have p3 : (i : Int) < 200 := by omega
        generalize rds l (i : Int) = z at c0 c1 c2
        obtain ⟨gb, hgb⟩ : ∃ q, q = wr.heap.size := ⟨_, rfl⟩
        obtain ⟨wx, hwx⟩ : ∃ q, q = wr.alloc (.cells #[.int .i64 z.f0, .int .i64 z.f1, .int .i64 z.f2] 37) := ⟨_, rfl⟩
        have AX := Aside0.mk (show At wx g s by rw [hwx]; exact ha.below (below_alloc (Below.refl _ _) _))
        have MX := Aside0.mk (show MemAt wx gm s.p by rw [hwx]; exact hmm.below (below_alloc (Below.refl _ _) _))
        have XX := Aside0.mk (show BoxAt wx gb z by rw [hwx, hgb]; exact BoxAt.new wr z)
        have BX := Aside0.mk (show Below w.heap.size w wx by rw [hwx]; exact below_alloc hbw _)
        have NG := Aside0.mk (show gb ≠ g by have := ha.lt; omega)
        have NM := Aside0.mk (show gb ≠ gm by have := hmm.lt; omega)
        have x0 := XX.out.c0
        have x1 := XX.out.c1
        have x2 := XX.out.c2
        obtain ⟨a, ea⟩ : ∃ a, slotI s z.f1 = a := ⟨_, rfl⟩
        obtain ⟨b, eb⟩ : ∃ b, slotB s z.f1 = b := ⟨_, rfl⟩
        have EA := Aside0.mk ea
        have EB := Aside0.mk eb
        have HGB := Aside0.mk hgb
        have HWX := Aside0.mk hwx
        clear hR hs hsm hsb hbw ha hmm hlr hgb hwx ea eb
        go_upto_region 11 with (fail)
        rw [← HWX.out, ← HGB.out]
        go_upto_if 57 with (go_at_call 30; (with_reducible refine (Slot_r EA.out EB.out HS.out.many _ ?ha).mono ?_); (case ha => exact AX.out); rintro e w5 ⟨rfl, hb⟩; have A5 := Aside0.mk (AX.out.below hb); have M5 := Aside0.mk (MX.out.below hb); have X5 := Aside0.mk (XX.out.below hb); have B5 := Aside0.mk (below_step BX.out hb); have y0 := X5.out.c0; have y1 := X5.out.c1; have y2 := X5.out.c2; clear hb)
        clear c0 c1 c2 x0 x1 x2
        go_cut [11] (fun v wc => v = .int .i64 (i : Int) ∧ Aside0 (∃ s, Inv s ∧ s.many = M ∧ s.budget = Ld.pos budget ∧ At wc g s ∧ MemAt wc gm s.p ∧ Below w.heap.size w wc))
        case first =>
          by_cases hz : z.f0 = 3
          · have hz2 : (z.f0 == 3) = true := by simp [hz]
            obtain ⟨er, eer⟩ : ∃ er, freeErr s z.f1 = er := ⟨_, rfl⟩
            have ER := Aside0.mk eer
            by_cases he : er = 0
            · subst he
              obtain ⟨i0, hF⟩ := freed HS.out eer
              have hb : b = true := by rw [← EB.out]; exact freeErr_iff.1 eer
              have hai : a = (i0 : Int) := by rw [← EA.out]; exact hF.slot
              have hi16 : i0 < 16 := by have := hF.lt; have := HS.out.many; omega
              have hi17 : (i0 : Int) < 16 := by omega
              have FP := Aside0.mk hF.slot_put
              clear eer hF
              subst hb
              subst hai
              go_wp2_with (go_at_call 28; (with_reducible refine (Free_r HS.out ER.out _ ?ha).mono ?_); (case ha => exact A5.out); rintro e w6 ⟨rfl, hA6, hT⟩; have A6 := Aside0.mk hA6; have M6 := Aside0.mk (MemAt.touch hT M5.out HNE.out.symm); have B6 := Aside0.mk (hT.below B5.out hg (Nat.le_refl _)); have m6 := M6.out.get i0 hi16; have f6 := M6.out.frozen i0; clear hA6 hT)
              go_meet
              refine ⟨rfl, ⟨_, inv_free HS.out z.f1, (free_many _ _).trans HSM.out, (free_budget _ _).trans HSB.out, At.far A6.out HNE.out _ _, ?_, B6.out.setCell hd _⟩⟩
              rw [FP.out]
              exact M6.out.put nobody i0 hi16
            · have hb : b = false := by
                rw [← EB.out]
                cases h : slotB s z.f1
                · rfl
                · exact absurd (ER.out.symm.trans (freeErr_iff.2 h)) he
              have he2 : (er == 0) = false := by simpa using he
              have NO := Aside0.mk (free_no (show freeErr s z.f1 ≠ 0 by rw [eer]; exact he)).2.1
              clear eer he
              subst hb
              go_wp2_with (go_at_call 28; (with_reducible refine (Free_r HS.out ER.out _ ?ha).mono ?_); (case ha => exact A5.out); rintro e w6 ⟨rfl, hA6, hT⟩; rw [NO.out] at hA6; have A6 := Aside0.mk hA6; have M6 := Aside0.mk (MemAt.touch hT M5.out HNE.out.symm); have B6 := Aside0.mk (hT.below B5.out hg (Nat.le_refl _)); clear hA6 hT)
              go_meet
              exact ⟨rfl, ⟨_, HS.out, HSM.out, HSB.out, A6.out, M6.out, B6.out⟩⟩
          · have hz2 : (z.f0 == 3) = false := by simp [hz]
            obtain ⟨er, eer⟩ : ∃ er, takeErr s z.f1 z.f2 = er := ⟨_, rfl⟩
            have ER := Aside0.mk eer
            by_cases he : er = 0
            · subst he
              obtain ⟨i0, hT0⟩ := took HS.out eer
              have hb : b = false := by rw [← EB.out]; exact hT0.has
              have EN := Aside0.mk hT0.slot
              have hlt0 : i0 < M := by rw [← HSM.out]; exact hT0.lt
              have hlt3 : ¬ M ≤ i0 := by omega
              have hi16 : i0 < 16 := by omega
              have hi17 : (i0 : Int) < 16 := by omega
              have FP := Aside0.mk hT0.slot_put
              clear eer hT0
              subst hb
              go_wp2_with (go_at_call 26; (with_reducible refine (Take_r HS.out EN.out ER.out _ ?ha).mono ?_); (case ha => exact A5.out); rintro e w6 ⟨rfl, hA6, hT⟩; have A6 := Aside0.mk hA6; have M6 := Aside0.mk (MemAt.touch hT M5.out HNE.out.symm); have X6 := Aside0.mk (BoxAt.touch hT X5.out NG.out); have B6 := Aside0.mk (hT.below B5.out hg (Nat.le_refl _)); have m6 := M6.out.get i0 hi16; have f6 := M6.out.frozen i0; have z2 := X6.out.c2; clear hA6 hT)
              go_meet
              refine ⟨rfl, ⟨_, inv_take HS.out z.f1 z.f2, (take_many _ _ _).trans HSM.out, (take_budget _ _ _).trans HSB.out, At.far A6.out HNE.out _ _, ?_, B6.out.setCell hd _⟩⟩
              rw [FP.out]
              exact M6.out.put ⟨true, z.f1, z.f2⟩ i0 hi16
            · have he2 : (er == 0) = false := by simpa using he
              have NO := take_no (show takeErr s z.f1 z.f2 ≠ 0 by rw [eer]; exact he)
              have N1 := Aside0.mk NO.1
              have N2 := Aside0.mk NO.2
              clear eer he NO
              go_wp2_with (go_at_call 26; (with_reducible refine (Take_r HS.out N1.out ER.out _ ?ha).mono ?_); (case ha => exact A5.out); rintro e w6 ⟨rfl, hA6, hT⟩; rw [N2.out] at hA6; have A6 := Aside0.mk hA6; have M6 := Aside0.mk (MemAt.touch hT M5.out HNE.out.symm); have B6 := Aside0.mk (hT.below B5.out hg (Nat.le_refl _)); clear hA6 hT)
              go_meet
              exact ⟨rfl, ⟨_, HS.out, HSM.out, HSB.out, A6.out, M6.out, B6.out⟩⟩
        case rest =>
          obtain ⟨rfl, hc⟩ := hcut
          clear HS HSM HSB HB HA HMM AX MX XX BX NG NM EA EB HGB HWX A5 M5 X5 B5 y0 y1 y2
          clear s
          obtain ⟨s, hs, hsm, hsb, ha, hmm, hbw⟩ := hc.out
          have HS := Aside0.mk hs
          have HSM := Aside0.mk hsm
          have HSB := Aside0.mk hsb
          have HA := Aside0.mk ha
          have HMM := Aside0.mk hmm
          have HB := Aside0.mk hbw
          obtain ⟨gi, hgi⟩ : ∃ q, q = gk := ⟨_, rfl⟩
          have HGI := Aside0.mk hgi
          clear hc hs hsm hsb ha hmm hbw hgi p1 p2
          go_upto_block 2 with (fail)
          go_cut [18, 19] (fun v18 v19 wz => v18 = .int .i64 (heldN s.p 16 : Int) ∧ v19 = .int .i64 (tot s.p 16) ∧ Aside0 (At wz g s ∧ MemAt wz gm s.p ∧ Below w.heap.size w wz))
          case first =>
            go_wp2
            go_loopg [18, 19, 20] 17 (fun kq v18 v19 v20 wq => ∃ (k h : Nat) (T : Int), v20 = .int .i64 (k : Int) ∧ v18 = .int .i64 (h : Int) ∧ v19 = .int .i64 T ∧ Aside0 (kq + k = 17 ∧ k ≤ 16 ∧ h = heldN s.p k ∧ T = tot s.p k ∧ At wq g s ∧ MemAt wq gm s.p ∧ Below w.heap.size w wq))
            case atStart => exact ⟨0, 0, 0, rfl, rfl, rfl, ⟨by omega, by omega, rfl, rfl, HA.out, HMM.out, HB.out⟩⟩
            case round =>
              obtain ⟨k, h, T, rfl, rfl, rfl, hC⟩ := hrel
              obtain ⟨hk2, hk16, hh, hT, hak, hmk, hbk⟩ := hC.out
              have HH := Aside0.mk hh
              have HT := Aside0.mk hT
              have HAK := Aside0.mk hak
              have HMK := Aside0.mk hmk
              have HBK := Aside0.mk hbk
              have hhk : h ≤ 16 := by rw [hh]; have := heldN_le s.p k; omega
              by_cases hkl : k < 16
              · obtain ⟨t0, t1, t2⟩ := tot_step HS.out hkl
                rw [← hT] at t0 t2
                have HAB := Aside0.mk (atB_held HS.out k)
                have HAI := Aside0.mk (atI_id HS.out k)
                have HF := Aside0.mk (fnd_of HS.out (i := k) (id := (s.p k).id))
                have hout := HS.out.out k
                obtain ⟨m, em⟩ : ∃ m, (s.p k).mem = m := ⟨_, rfl⟩
                obtain ⟨id, eid⟩ : ∃ m, (s.p k).id = m := ⟨_, rfl⟩
                rw [em] at t1 t2
                have EM := Aside0.mk em
                have EI := Aside0.mk (HAI.out.trans eid)
                have EID := Aside0.mk eid
                have hk3 : (k : Int) < 16 := by omega
                have H0 := Aside0.mk (show heldN s.p (k + 1) = heldN s.p k + if (s.p k).held then 1 else 0 from rfl)
                have T0 := Aside0.mk (show tot s.p (k + 1) = tot s.p k + (s.p k).mem from rfl)
                clear hC hh hT hak hmk hbk em eid
                cases hb : (s.p k).held
                · have EB := Aside0.mk (HAB.out.trans hb)
                  have HN := Aside0.mk hb
                  clear hb hout
                  obtain ⟨a2, ea2⟩ : ∃ a, slotI s id = a := ⟨_, rfl⟩
                  obtain ⟨b2, eb2⟩ : ∃ b, slotB s id = b := ⟨_, rfl⟩
                  have EA2 := Aside0.mk ea2
                  have EB2 := Aside0.mk eb2
                  clear ea2 eb2
                  go_wp2_with (first
                    | (go_at_call 37; (with_reducible refine (At_r HS.out EI.out EB.out _ ?ha).mono ?_); (case ha => exact HAK.out); rintro e w3 ⟨rfl, hb⟩; have A3 := Aside0.mk (HAK.out.below hb); have M3 := Aside0.mk (HMK.out.below hb); have B3 := Aside0.mk (below_step HBK.out hb); clear hb)
                    | (go_at_call 30; (with_reducible refine (Slot_r EA2.out EB2.out HS.out.many _ ?ha).mono ?_); (case ha => exact A3.out); rintro e w4 ⟨rfl, hb⟩; have A4 := Aside0.mk (A3.out.below hb); have M4 := Aside0.mk (M3.out.below hb); have B4 := Aside0.mk (below_step B3.out hb); have m4 := M4.out.get k hkl; rw [EM.out] at m4; clear hb))
                  go_roundg (gk - 1)
                  case measure => omega
                  case rel => exact ⟨k + 1, h, T + m, rfl, rfl, rfl, ⟨by omega, by omega, by rw [H0.out, HN.out, ← HH.out]; rfl, by rw [T0.out, EM.out, ← HT.out], A4.out, M4.out, B4.out⟩⟩
                · have EB := Aside0.mk (HAB.out.trans hb)
                  have HN := Aside0.mk hb
                  have hkM : ¬ M ≤ k := by
                    intro hge
                    have := hout (by rw [HSM.out]; exact hge)
                    rw [this] at hb; cases hb
                  have hf := HF.out hb rfl
                  rw [EID.out] at hf
                  have hsl := slotB_true hf
                  have EA2 := Aside0.mk hsl.2
                  have EB2 := Aside0.mk hsl.1
                  clear hb hout hf hsl
                  go_wp2_with (first
                    | (go_at_call 37; (with_reducible refine (At_r HS.out EI.out EB.out _ ?ha).mono ?_); (case ha => exact HAK.out); rintro e w3 ⟨rfl, hb⟩; have A3 := Aside0.mk (HAK.out.below hb); have M3 := Aside0.mk (HMK.out.below hb); have B3 := Aside0.mk (below_step HBK.out hb); clear hb)
                    | (go_at_call 30; (with_reducible refine (Slot_r EA2.out EB2.out HS.out.many _ ?ha).mono ?_); (case ha => exact A3.out); rintro e w4 ⟨rfl, hb⟩; have A4 := Aside0.mk (A3.out.below hb); have M4 := Aside0.mk (M3.out.below hb); have B4 := Aside0.mk (below_step B3.out hb); have m4 := M4.out.get k hkl; rw [EM.out] at m4; clear hb))
                  go_roundg (gk - 1)
                  case measure => omega
                  case rel => exact ⟨k + 1, h + 1, T + m, rfl, rfl, rfl, ⟨by omega, by omega, by rw [H0.out, HN.out, ← HH.out]; rfl, by rw [T0.out, EM.out, ← HT.out], A4.out, M4.out, B4.out⟩⟩
              · have hk3 : ¬ (k : Int) < 16 := by omega
                have H16 : Aside0 (h = heldN s.p 16 ∧ T = tot s.p 16) := ⟨by
                  have : k = 16 := by omega
                  subst this; exact ⟨hh, hT⟩⟩
                clear hC hh hT hak hmk hbk
                go_wp2
                go_meet
                exact ⟨by rw [H16.out.1], by rw [H16.out.2], ⟨HAK.out, HMK.out, HBK.out⟩⟩
          case rest =>
            obtain ⟨rfl, rfl, hD⟩ := hcut
            obtain ⟨hbd1, hbd2⟩ := bounds HS.out
            obtain ⟨H, eH⟩ : ∃ H, heldN s.p 16 = H := ⟨_, rfl⟩
            obtain ⟨F, eF⟩ : ∃ F, Ld.slots s = F := ⟨_, rfl⟩
            obtain ⟨U, eU⟩ : ∃ U, s.used = U := ⟨_, rfl⟩
            rw [← hbd2, eU]
            have hle := slots_le HS.out
            have hu0 := HS.out.pos
            have hub := HS.out.le
            have hbig := HS.out.big
            rw [HSB.out] at hub hbig
            rw [eU] at hu0 hub
            rw [eF] at hle
            rw [eH, eF, HSM.out] at hbd1
            rw [eH]
            have hH16 : H ≤ 16 := by rw [← eH]; exact heldN_le _ _
            have EF := Aside0.mk eF
            have EU := Aside0.mk eU
            obtain ⟨R, eR⟩ : ∃ R, s.budget - s.used = R := ⟨_, rfl⟩
            have hUR : U + R = Ld.pos budget := by rw [← eR, HSB.out, eU]; omega
            have ERM := Aside0.mk eR
            have HD := hD.out
            have A0 := Aside0.mk HD.1
            have M0 := Aside0.mk HD.2.1
            have B0 := Aside0.mk HD.2.2
            have hR0 : 0 ≤ R := by omega
            have hp : Ld.pos budget = if budget < 0 then 0 else budget := rfl
            clear hD HD hbd2 eH eF eU eR
            by_cases hb0 : budget < 0
            all_goals
              first | rw [if_pos hb0] at hp | rw [if_neg hb0] at hp
              rw [hp] at hUR hub hbig
              clear hp
              go_wp2_with (first
                | (go_at_call 35; (with_reducible refine (Slots_r HS.out EF.out _ ?ha).mono ?_); (case ha => exact A0.out); rintro e w3 ⟨rfl, hb⟩; have A3 := Aside0.mk (A0.out.below hb); have M3 := Aside0.mk (M0.out.below hb); have B3 := Aside0.mk (below_step B0.out hb); clear hb)
                | (go_at_call 32; (with_reducible refine (Used_r EU.out _ ?ha).mono ?_); (case ha => exact A3.out); rintro e w4 ⟨rfl, ⟨n4, rfl⟩⟩)
                | (go_at_call 34; (with_reducible refine (RoomI_r HS.out ERM.out _ ?ha).mono ?_); (case ha => exact A3.out); rintro e w5 ⟨rfl, ⟨n5, rfl⟩⟩))
              go_roundg (gi - 1)
              case measure => have := HGI.out; omega
              case rel => exact ⟨i + 1, rfl, ⟨s, by have := HGI.out; omega, by omega, by omega, HS.out, HSM.out, HSB.out, A3.out, M3.out, by repeat (first | exact B3.out | apply pw_below_drewN | apply below_drew1)⟩⟩
      · have hdd : ¬ i < l.length ∨ (i < l.length ∧ (200 : Int) ≤ (i : Int)) := by omega
        clear hR hs hsm hsb ha hmm hbw hlt
        rcases hdd with b1 | ⟨b1, b2⟩
        · go_wp2
          go_ret
          exact ⟨rfl, HB.out⟩
        · have n2 : ¬ (i : Int) < 200 := by omega
          go_wp2
          go_ret
          exact ⟨rfl, HB.out⟩
end Go.Proofs.Ytkldfjlbgmppfab.Ld
