import Derived.Test.YtkldfjlbgmppfabLs
import Derived.Test.YtkldfjlbgmppfabLr4
import Derived.StillTailTactics
namespace Go.Proofs.Ytkldfjlbgmppfab.Ld
open Go.RowKit Go.Proofs.YtkldfjlbgmppfabW.PrintWords Go.Proofs.YtkldfjlbgmppfabW.PrintLast Go.Proofs.YtkldfjlbgmppfabW.PrintMore
set_option linter.unusedVariables false
set_option linter.unusedSimpArgs false
attribute [local go_sem] max2_int min2_int max_two min_two
set_option maxHeartbeats 8000000 in
set_option maxRecDepth 100000 in
theorem Plays_calls (budget sl : Int) (hbud : budget ≤ 9223372036854775807) (A : Option Addr) (l : List S37) (c : Nat) (w : World) (hl : Kd.C k37 w A l.length l) :
    Calls Try.prog 4 #[.int .i64 budget, .int .i64 sl, .slice A l.length c] w fun e w' => e = .returned (.bool true) ∧ Below w.heap.size w w' := by
  go_enter Try.func4, Try.ntmps4
  go_upto_block 0 with (first
    | (go_at_call 24; (with_reducible refine (shown_calls _).mono ?_); rintro e w1 ⟨rfl, hb1⟩)
    | (go_at_call 25; (with_reducible refine (New_calls _ _ _).mono ?_); rintro e w2 ⟨rfl, hA, hb2⟩))
  have hBB := below_step hb1 hb2
  have hg := hb1.size
  have hne : w1.heap.size ≠ w2.heap.size := by have := hA.lt; omega
  obtain ⟨g, hgg⟩ : ∃ g, g = w1.heap.size := ⟨_, rfl⟩
  obtain ⟨gr, hrr⟩ : ∃ g, g = w2.heap.size := ⟨_, rfl⟩
  rw [← hgg] at hA hg hne ⊢
  rw [← hrr] at hne ⊢
  have hd : w.heap.size ≤ gr := by rw [hrr]; exact hBB.size
  have hX : Both w.heap.size g gr budget sl (fresh budget sl) [] (w2.alloc (.cells #[.int .i64 budget, .int .i64 sl, .slice none 0 0] 35)) :=
    ⟨inv_fresh budget sl hbud, rfl, (fresh_many budget sl).symm, Rel.fresh budget sl, hA.below (below_alloc (Below.refl _ _) _), ⟨.slice none 0 0, by rw [hrr]; exact heap_alloc_new w2 _, Kd.R_nil _ _ _ _ _⟩⟩
  have HX := Aside0.mk (show ∃ s xs, Both w.heap.size g gr budget sl s xs (w2.alloc (.cells #[.int .i64 budget, .int .i64 sl, .slice none 0 0] 35)) ∧ Below w.heap.size w (w2.alloc (.cells #[.int .i64 budget, .int .i64 sl, .slice none 0 0] 35)) from ⟨_, _, hX, below_alloc hBB _⟩)
  have HL := Aside0.mk hl
  have HNE := Aside0.mk hne
  clear hb1 hb2 hgg hrr hl hA hX hne hBB
  go_wp2
  go_loopg [10] 201 (fun kq v wr => ∃ i : Nat, v = .int .i64 (i : Int) ∧ Aside0 (kq + i = 201 ∧ i ≤ l.length ∧ i ≤ 200 ∧ ∃ s xs, Both w.heap.size g gr budget sl s xs wr ∧ Below w.heap.size w wr))
  case atStart => exact ⟨0, rfl, ⟨by omega, by omega, by omega, HX.out⟩⟩
  case round =>
    clear HX
    obtain ⟨i, rfl, hR⟩ := hrel
    obtain ⟨hk, hi1, hi2, s, xs, hboth, hbw⟩ := hR.out
    have HBO := Aside0.mk hboth
    have HB := Aside0.mk hbw
    by_cases hlt : i < l.length ∧ i < 200
    · obtain ⟨hlt1, hlt2⟩ := hlt
      have hlr := Kd.C_below HL.out hbw
      obtain ⟨ad, rfl, c0, c1, c2⟩ := at_step hlr (i : Int) (by omega) (by omega)
      simp only [Int.toNat_natCast] at c0 c1 c2
      have p1 : (0 ≤ (i : Int)) = True := eq_true (by omega)
      have p2 : ((i : Int) < (l.length : Int)) = True := eq_true (by omega)
      have p3 : (i : Int) < 200 := by omega
      generalize rds l (i : Int) = z at c0 c1 c2
      obtain ⟨gb, hgb⟩ : ∃ q, q = wr.heap.size := ⟨_, rfl⟩
      obtain ⟨wx, hwx⟩ : ∃ q, q = wr.alloc (.cells #[.int .i64 z.f0, .int .i64 z.f1, .int .i64 z.f2] 37) := ⟨_, rfl⟩
      have OX := Aside0.mk (show Both w.heap.size g gr budget sl s xs wx by rw [hwx]; exact hboth.below (below_alloc (Below.refl _ _) _))
      have XX := Aside0.mk (show BoxAt wx gb z by rw [hwx, hgb]; exact BoxAt.new wr z)
      have BX := Aside0.mk (show Below w.heap.size w wx by rw [hwx]; exact below_alloc hbw _)
      have NG := Aside0.mk (show gb ≠ g by have := hboth.2.2.2.2.1.lt; omega)
      have NR := Aside0.mk (show gb ≠ gr by have := hboth.2.2.2.2.2.lt; omega)
      have x0 := XX.out.c0
      have x1 := XX.out.c1
      have x2 := XX.out.c2
      have HGB := Aside0.mk hgb
      have HWX := Aside0.mk hwx
      obtain ⟨gi, hgi⟩ : ∃ q, q = gk := ⟨_, rfl⟩
      have HGI := Aside0.mk hgi
      clear hR hboth hbw hlr hgb hwx hgi
      go_upto_region 10 with (fail)
      rw [← HWX.out, ← HGB.out]
      clear c0 c1 c2
      go_upto_block 2 with (fail)
      go_cut [12] (fun v12 wc => v12 = .bool true ∧ Aside0 (BoxAt wc gb z ∧ ∃ s xs, Both w.heap.size g gr budget sl s xs wc ∧ Below w.heap.size w wc))
      case first =>
        obtain ⟨hs, hsb, hcap, hrel0, ha, href⟩ := OX.out
        have HS := Aside0.mk hs
        have HSB := Aside0.mk hsb
        have HCAP := Aside0.mk hcap
        have HREL := Aside0.mk hrel0
        have HA := Aside0.mk ha
        have HREF := Aside0.mk href
        have hoks : ∀ (W : World), g < W.heap.size → gr < W.heap.size → ∀ k, W.heap.size ≤ k → k ≠ g ∧ k ≠ gr := fun W h1 h2 k hk => ⟨by omega, by omega⟩
        have HOKS := Aside0.mk hoks
        clear hs hsb hcap hrel0 ha href hoks p1 p2
        by_cases hz3 : z.f0 = 3
        · have hz1 : (z.f0 == 1) = false := by simp [hz3]
          have hz2 : (z.f0 == 2) = false := by simp [hz3]
          have hz4 : (z.f0 == 3) = true := by simp [hz3]
          obtain ⟨er, eer⟩ : ∃ er, freeErr s z.f1 = er := ⟨_, rfl⟩
          have ER := Aside0.mk eer
          clear eer hz3
          go_wp2
          go_region_with (first
            | (go_at_call 28; (with_reducible refine (Free_r HS.out ER.out _ ?ha).mono ?_); (case ha => exact HA.out); rintro e w5 ⟨rfl, hA5, hT0⟩; have hT := Touch.undrew hT0; clear hT0; have A5 := Aside0.mk hA5; have F5 := Aside0.mk (HREF.out.touch hT HNE.out.symm (fun k hk => hk.1)); have X5 := Aside0.mk (BoxAt.touch hT XX.out NG.out); have y1 := X5.out.c1; have B5 := Aside0.mk (hT.below BX.out hg (Nat.le_refl _)); clear hA5 hT)
            | (go_at_call 29; (with_reducible refine (RFree_r (base := w.heap.size) (ok := fun k => k ≠ g ∧ k ≠ gr) (B := budget) (K := sl) (xs := xs) HS.out HREL.out ER.out _ ?hr ?hb ?ho).mono ?_); (case hr => exact F5.out); (case hb => exact B5.out.size); (case ho => exact HOKS.out _ A5.out.lt F5.out.lt); rintro e w6 ⟨rfl, ⟨ys, hr6, hf6⟩, hT⟩; have R6 := Aside0.mk hr6; have F6 := Aside0.mk hf6; have A6 := Aside0.mk (hT.at A5.out HNE.out); have X6 := Aside0.mk (BoxAt.touch hT X5.out NR.out); have B6 := Aside0.mk (hT.below B5.out hd (Nat.le_refl _)); clear hr6 hf6 hT))
          all_goals
            go_wp2
            go_meet
            exact ⟨rfl, ⟨X6.out, _, ys, ⟨inv_free HS.out _, (free_budget _ _).trans HSB.out, by rw [free_many]; exact HCAP.out, R6.out, A6.out, F6.out⟩, B6.out⟩⟩
        · have hz4 : (z.f0 == 3) = false := by simp [hz3]
          clear hz3
          by_cases hz12 : z.f0 = 1 ∨ z.f0 = 2
          · obtain ⟨er, eer⟩ : ∃ er, takeErr s z.f1 z.f2 = er := ⟨_, rfl⟩
            obtain ⟨en, een⟩ : ∃ er, takeSlot s z.f1 z.f2 = er := ⟨_, rfl⟩
            have ER := Aside0.mk eer
            have EN := Aside0.mk een
            clear eer een
            rcases hz12 with h | h
            · have hz1 : (z.f0 == 1) = true := by simp [h]
              clear h
              go_wp2_with (first
                | (go_at_call 26; (with_reducible refine (Take_r HS.out EN.out ER.out _ ?ha).mono ?_); (case ha => exact HA.out); rintro e w5 ⟨rfl, hA5, hT⟩; have A5 := Aside0.mk hA5; have F5 := Aside0.mk (HREF.out.touch hT HNE.out.symm (fun k hk => hk.1)); have X5 := Aside0.mk (BoxAt.touch hT XX.out NG.out); have y1 := X5.out.c1; have y2 := X5.out.c2; have B5 := Aside0.mk (hT.below BX.out hg (Nat.le_refl _)); clear hA5 hT)
                | (go_at_call 27; (with_reducible refine (RTake_r (base := w.heap.size) (ok := fun k => k ≠ g ∧ k ≠ gr) (B := budget) (K := sl) (xs := xs) HS.out HREL.out HCAP.out HSB.out EN.out ER.out _ ?hr ?hb ?ho).mono ?_); (case hr => exact F5.out); (case hb => exact B5.out.size); (case ho => exact HOKS.out _ A5.out.lt F5.out.lt); rintro e w6 ⟨rfl, ⟨ys, hr6, hf6⟩, hT⟩; have R6 := Aside0.mk hr6; have F6 := Aside0.mk hf6; have A6 := Aside0.mk (hT.at A5.out HNE.out); have X6 := Aside0.mk (BoxAt.touch hT X5.out NR.out); have B6 := Aside0.mk (hT.below B5.out hd (Nat.le_refl _)); clear hr6 hf6 hT))
              go_meet
              exact ⟨rfl, ⟨X6.out, _, ys, ⟨inv_take HS.out _ _, (take_budget _ _ _).trans HSB.out, by rw [take_many]; exact HCAP.out, R6.out, A6.out, F6.out⟩, B6.out⟩⟩
            · have hz1 : (z.f0 == 1) = false := by simp [h]
              have hz2 : (z.f0 == 2) = true := by simp [h]
              clear h
              go_wp2_with (first
                | (go_at_call 26; (with_reducible refine (Take_r HS.out EN.out ER.out _ ?ha).mono ?_); (case ha => exact HA.out); rintro e w5 ⟨rfl, hA5, hT⟩; have A5 := Aside0.mk hA5; have F5 := Aside0.mk (HREF.out.touch hT HNE.out.symm (fun k hk => hk.1)); have X5 := Aside0.mk (BoxAt.touch hT XX.out NG.out); have y1 := X5.out.c1; have y2 := X5.out.c2; have B5 := Aside0.mk (hT.below BX.out hg (Nat.le_refl _)); clear hA5 hT)
                | (go_at_call 27; (with_reducible refine (RTake_r (base := w.heap.size) (ok := fun k => k ≠ g ∧ k ≠ gr) (B := budget) (K := sl) (xs := xs) HS.out HREL.out HCAP.out HSB.out EN.out ER.out _ ?hr ?hb ?ho).mono ?_); (case hr => exact F5.out); (case hb => exact B5.out.size); (case ho => exact HOKS.out _ A5.out.lt F5.out.lt); rintro e w6 ⟨rfl, ⟨ys, hr6, hf6⟩, hT⟩; have R6 := Aside0.mk hr6; have F6 := Aside0.mk hf6; have A6 := Aside0.mk (hT.at A5.out HNE.out); have X6 := Aside0.mk (BoxAt.touch hT X5.out NR.out); have B6 := Aside0.mk (hT.below B5.out hd (Nat.le_refl _)); clear hr6 hf6 hT))
              go_meet
              exact ⟨rfl, ⟨X6.out, _, ys, ⟨inv_take HS.out _ _, (take_budget _ _ _).trans HSB.out, by rw [take_many]; exact HCAP.out, R6.out, A6.out, F6.out⟩, B6.out⟩⟩
          · have hz1 : (z.f0 == 1) = false := by simp; omega
            have hz2 : (z.f0 == 2) = false := by simp; omega
            clear hz12
            go_wp2
            go_meet
            exact ⟨rfl, ⟨XX.out, s, xs, OX.out, BX.out⟩⟩
      case rest =>
        obtain ⟨rfl, hc⟩ := hcut
        clear HBO HB OX XX BX x0 x1 x2 HWX HGB NG NR
        clear s xs
        obtain ⟨hbox, s, xs, hboth, hbw⟩ := hc.out
        obtain ⟨hs, hsb, hcap, hrel0, ha, href⟩ := hboth
        have x1 := hbox.c1
        have HBOX := Aside0.mk hbox
        have HBO := Aside0.mk (show Both w.heap.size g gr budget sl s xs wc from ⟨hs, hsb, hcap, hrel0, ha, href⟩)
        have HS := Aside0.mk hs
        have HCAP := Aside0.mk hcap
        have HREL := Aside0.mk hrel0
        have HA := Aside0.mk ha
        have HREF := Aside0.mk href
        have HB := Aside0.mk hbw
        obtain ⟨a, ea⟩ : ∃ a, slotI s z.f1 = a := ⟨_, rfl⟩
        obtain ⟨b, eb⟩ : ∃ b, slotB s z.f1 = b := ⟨_, rfl⟩
        obtain ⟨u, eu⟩ : ∃ u, s.used = u := ⟨_, rfl⟩
        obtain ⟨f, ef⟩ : ∃ f, Ld.slots s = f := ⟨_, rfl⟩
        have hu0 := hs.pos
        have hub := hs.le
        have hbig := hs.big
        rw [eu] at hu0 hub
        rw [hsb] at hub hbig
        have EA := Aside0.mk ea
        have EB := Aside0.mk eb
        have EU := Aside0.mk eu
        have EF := Aside0.mk ef
        have hrm : s.budget - s.used = Ld.pos budget - u := by rw [hsb, eu]
        have hp : Ld.pos budget = if budget < 0 then 0 else budget := rfl
        clear hc hbox hs hsb hcap hrel0 ha href hbw ea eb eu ef p1 p2
        by_cases hb0 : budget < 0
        all_goals
          first | rw [if_pos hb0] at hp | rw [if_neg hb0] at hp
          rw [hp] at hrm hub hbig
          have ERM := Aside0.mk hrm
          clear hp hrm
          go_upto_block 3 with (first
            | (go_at_call 30; (with_reducible refine (Slot_r EA.out EB.out HS.out.many _ ?ha).mono ?_); (case ha => exact HA.out); rintro e w3 ⟨rfl, hb⟩; have O3 := Aside0.mk (HBO.out.below hb); have y1 := (HBOX.out.below hb).c1; have B3 := Aside0.mk (below_step HB.out hb); clear hb)
            | (go_at_call 31; (with_reducible refine (RSlot_r (base := w.heap.size) (ok := fun k => k ≠ g ∧ k ≠ gr) (B := budget) (K := sl) (xs := xs) HS.out HREL.out EA.out EB.out _ ?ha).mono ?_); (case ha => exact O3.out.2.2.2.2.2); rintro e w4 ⟨rfl, hd4⟩; have O4 := Aside0.mk (O3.out.drawn hd4); have B4 := Aside0.mk (below_step B3.out hd4.below); clear hd4)
            | (go_at_call 32; (with_reducible refine (Used_r EU.out _ ?ha).mono ?_); (case ha => exact O4.out.2.2.2.2.1); rintro e w5 ⟨rfl, hd5⟩; have O5 := Aside0.mk (O4.out.drawn hd5); have B5 := Aside0.mk (below_step B4.out hd5.below); clear hd5)
            | (go_at_call 33; (with_reducible refine (RUsed_r (base := w.heap.size) (ok := fun k => k ≠ g ∧ k ≠ gr) (B := budget) (K := sl) (xs := xs) HS.out HREL.out EU.out _ ?ha).mono ?_); (case ha => exact O5.out.2.2.2.2.2); rintro e w6 ⟨rfl, hd6⟩; have O6 := Aside0.mk (O5.out.drawn hd6); have B6 := Aside0.mk (below_step B5.out hd6.below); clear hd6)
            | (go_at_call 34; (with_reducible refine (RoomI_r HS.out ERM.out _ ?ha).mono ?_); (case ha => exact O6.out.2.2.2.2.1); rintro e w7 ⟨rfl, hd7⟩; have O7 := Aside0.mk (O6.out.drawn hd7); have B7 := Aside0.mk (below_step B6.out hd7.below); clear hd7)
            | (go_at_call 33; (with_reducible refine (RUsed_r (base := w.heap.size) (ok := fun k => k ≠ g ∧ k ≠ gr) (B := budget) (K := sl) (xs := xs) HS.out HREL.out EU.out _ ?ha).mono ?_); (case ha => exact O7.out.2.2.2.2.2); rintro e w8 ⟨rfl, hd8⟩; have O8 := Aside0.mk (O7.out.drawn hd8); have B8 := Aside0.mk (below_step B7.out hd8.below); clear hd8)
            | (go_at_call 35; (with_reducible refine (Slots_r HS.out EF.out _ ?ha).mono ?_); (case ha => exact O8.out.2.2.2.2.1); rintro e w9 ⟨rfl, hb⟩; have O9 := Aside0.mk (O8.out.below hb); have B9 := Aside0.mk (below_step B8.out hb); clear hb)
            | (go_at_call 36; (with_reducible refine (RSlots_r (base := w.heap.size) (ok := fun k => k ≠ g ∧ k ≠ gr) (B := budget) (K := sl) (xs := xs) HS.out HREL.out HCAP.out EF.out _ ?ha).mono ?_); (case ha => exact O9.out.2.2.2.2.2); rintro e w10 ⟨rfl, hd10⟩; have O10 := Aside0.mk (O9.out.drawn hd10); have B10 := Aside0.mk (below_step B9.out hd10.below); clear hd10))
          clear x1 y1 hu0 hub hbig
          go_wp2
          go_loopg [21] 20 (fun kq v wq => ∃ k : Int, v = .int .i64 k ∧ Aside0 (-1 ≤ k ∧ k ≤ 18 ∧ kq + (k + 1).toNat = 20 ∧ Both w.heap.size g gr budget sl s xs wq ∧ Below w.heap.size w wq))
          case atStart => exact ⟨-1, rfl, ⟨by omega, by omega, by simp, O10.out, B10.out⟩⟩
          case round =>
            obtain ⟨k, rfl, hC⟩ := hrel
            obtain ⟨hk1, hk2, hk3, hbo, hbk⟩ := hC.out
            have OK := Aside0.mk hbo
            have BK := Aside0.mk hbk
            clear hC hbo hbk
            by_cases hkl : k < 18
            · obtain ⟨a2, ea2⟩ : ∃ a, atI s k = a := ⟨_, rfl⟩
              obtain ⟨b2, eb2⟩ : ∃ b, atB s k = b := ⟨_, rfl⟩
              have EA2 := Aside0.mk ea2
              have EB2 := Aside0.mk eb2
              clear ea2 eb2
              go_wp2_with (first
                | (go_at_call 37; (with_reducible refine (At_r HS.out EA2.out EB2.out _ ?ha).mono ?_); (case ha => exact OK.out.2.2.2.2.1); rintro e w11 ⟨rfl, hb⟩; have O11 := Aside0.mk (OK.out.below hb); have B11 := Aside0.mk (below_step BK.out hb); clear hb)
                | (go_at_call 38; (with_reducible refine (RAt_r (base := w.heap.size) (ok := fun k => k ≠ g ∧ k ≠ gr) (B := budget) (K := sl) (xs := xs) HS.out HREL.out EA2.out EB2.out _ ?ha).mono ?_); (case ha => exact O11.out.2.2.2.2.2); rintro e w12 ⟨rfl, hd12⟩; have O12 := Aside0.mk (O11.out.drawn hd12); have B12 := Aside0.mk (below_step B11.out hd12.below); clear hd12))
              go_roundg (gk - 1)
              case measure => omega
              case rel => exact ⟨k + 1, rfl, ⟨by omega, by omega, by omega, O12.out, B12.out⟩⟩
            · go_wp2
              go_roundg (gi - 1)
              case measure => have := HGI.out; omega
              case rel => exact ⟨i + 1, rfl, ⟨by have := HGI.out; omega, by omega, by omega, s, xs, OK.out, BK.out⟩⟩
    · have hdd : ¬ i < l.length ∨ (i < l.length ∧ (200 : Int) ≤ (i : Int)) := by omega
      clear hR hboth hbw hlt
      rcases hdd with b1 | ⟨b1, b2⟩
      · go_wp2
        go_ret
        exact ⟨rfl, HB.out⟩
      · have n2 : ¬ (i : Int) < 200 := by omega
        go_wp2
        go_ret
        exact ⟨rfl, HB.out⟩
end Go.Proofs.Ytkldfjlbgmppfab.Ld
