import Derived.Test.YtkldfjlbgmppfabLs
import Derived.Test.YtkldfjlbgmppfabLp5
import Derived.Test.YtkldfjlbgmppfabPlain
import Derived.StillTailTactics
namespace Go.Proofs.Ytkldfjlbgmppfab.Ld
open Go.RowKit Go.Proofs.YtkldfjlbgmppfabW.PrintWords Go.Proofs.YtkldfjlbgmppfabW.PrintLast Go.Proofs.YtkldfjlbgmppfabW.PrintMore
set_option linter.unusedVariables false
set_option linter.unusedSimpArgs false
attribute [local go_sem] max2_int min2_int max_two min_two
set_option maxHeartbeats 8000000 in
set_option maxRecDepth 100000 in
theorem Again_calls (budget sl : Int) (hbud : budget ≤ 9223372036854775807) (A : Option Addr) (l : List S37) (c : Nat) (y : Int) (hy0 : 0 ≤ y) (hy1 : y ≤ 255) (w : World) (hl : Kd.C k37 w A l.length l) :
    Calls Try.prog 9 #[.int .i64 budget, .int .i64 sl, .slice A l.length c, .int .u8 y] w fun e w' => e = .returned (.bool true) ∧ Below w.heap.size w w' := by
  have tok1 : True := trivial
  go_enter Try.func9, Try.ntmps9
  go_upto_block 0 with (first
    | (go_at_call 24; (with_reducible refine (shown_calls _).mono ?_); rintro e w1 ⟨rfl, hb1⟩)
    | (go_at_call 25; clear tok1; (with_reducible refine (New_calls _ _ _).mono ?_); rintro e w2 ⟨rfl, hA, hb2⟩)
    | (go_at_call 25; (with_reducible refine (New_calls _ _ _).mono ?_); rintro e w3 ⟨rfl, hD, hb3⟩))
  have hBB := below_step (below_step hb1 hb2) hb3
  have hg := hb1.size
  have hd := (below_step hb1 hb2).size
  have hne : w1.heap.size ≠ w2.heap.size := by have := hA.lt; omega
  have hA2 := hA.below hb3
  obtain ⟨g, hgg⟩ : ∃ g, g = w1.heap.size := ⟨_, rfl⟩
  obtain ⟨d, hdd⟩ : ∃ g, g = w2.heap.size := ⟨_, rfl⟩
  rw [← hgg] at hA2 hg hne ⊢
  rw [← hdd] at hD hd hne ⊢
  have hX : ∃ s t, Inv s ∧ Inv t ∧ Shift y s t ∧ At w3 g s ∧ At w3 d t := ⟨_, _, inv_fresh budget sl hbud, inv_fresh budget sl hbud, Shift.refl y budget sl, hA2, hD⟩
  have HX := Aside0.mk hX
  have HL := Aside0.mk hl
  have HNE := Aside0.mk hne
  have HBB := Aside0.mk hBB
  clear hb1 hb2 hb3 hgg hdd hl hA hA2 hD hX hne hBB
  go_wp2
  go_loopg [12] 101 (fun kq v wr => ∃ i : Nat, v = .int .i64 (i : Int) ∧ Aside0 (∃ s t, kq + i = 101 ∧ i ≤ l.length ∧ i ≤ 100 ∧ Inv s ∧ Inv t ∧ Shift y s t ∧ At wr g s ∧ At wr d t ∧ Below w.heap.size w wr))
  case atStart =>
    obtain ⟨s, t, h1, h2, h3, h4, h5⟩ := HX.out
    exact ⟨0, rfl, ⟨s, t, by omega, by omega, by omega, h1, h2, h3, h4, h5, HBB.out⟩⟩
  case round =>
    clear HX HBB
    obtain ⟨i, rfl, hR⟩ := hrel
    obtain ⟨s, t, hk, hi1, hi2, hs, ht, hsh, ha, hdt, hbw⟩ := hR.out
    have HS := Aside0.mk hs
    have HT := Aside0.mk ht
    have HSH := Aside0.mk hsh
    have HB := Aside0.mk hbw
    have HA := Aside0.mk ha
    have HD := Aside0.mk hdt
    by_cases hlt : i < l.length ∧ i < 100
    · obtain ⟨hlt1, hlt2⟩ := hlt
      have hlr := Kd.C_below HL.out hbw
      obtain ⟨ad, rfl, c0, c1, c2⟩ := at_step hlr (i : Int) (by omega) (by omega)
      simp only [Int.toNat_natCast] at c0 c1 c2
      have c2w := Aside0.mk c2
      have p1 : (0 ≤ (i : Int)) = True := eq_true (by omega)
      have p2 : ((i : Int) < (l.length : Int)) = True := eq_true (by omega)
      have p3 : (i : Int) < 100 := by omega
      have hcell : Aside0 (∀ W1 : World, Below w.heap.size w W1 → ∃ adx, adx = ad ∧ W1.cell? ⟨(adx.add (i * 3)).block, (adx.add (i * 3)).off + 2, none⟩ = some (.int .i64 (rds l (i : Int)).f2)) := ⟨by
        intro W1 hW
        obtain ⟨ad2, e2, _, _, h2⟩ := at_step (Kd.C_below HL.out hW) (i : Int) (by omega) (by omega)
        cases e2
        simp only [Int.toNat_natCast] at h2
        exact ⟨ad, rfl, h2⟩⟩
      generalize rds l (i : Int) = z at c0 c1 c2 hcell c2w
      obtain ⟨id, hid⟩ : ∃ d, bits .and .i64 z.f1 65535 = d := ⟨_, rfl⟩
      have hid0 : 0 ≤ id ∧ id < 65536 := by rw [← hid, Plain.and_65535]; omega
      clear hR hs ht hsh ha hdt hbw hlr
      by_cases hz : z.f0 = 3
      · have hz2 : (z.f0 == 3) = true := by simp [hz]
        obtain ⟨e1, e2⟩ := HSH.out.frees id
        obtain ⟨er, eer⟩ : ∃ er, freeErr s id = er := ⟨_, rfl⟩
        rw [eer] at e1
        have E1 := Aside0.mk eer
        have E2 := Aside0.mk e1
        have HSH2 := Aside0.mk e2
        have HS2 := Aside0.mk (inv_free HS.out id)
        have HT2 := Aside0.mk (inv_free HT.out (id + y))
        clear e1 e2 eer
        obtain ⟨u, eu⟩ : ∃ u, (freeSt s id).used = u := ⟨_, rfl⟩
        obtain ⟨f, ef⟩ : ∃ f, Ld.slots (freeSt s id) = f := ⟨_, rfl⟩
        have EU1 := Aside0.mk eu
        have EU2 := Aside0.mk (HSH2.out.u.trans eu)
        have ES1 := Aside0.mk ef
        have ES2 := Aside0.mk (HSH2.out.slots.trans ef)
        clear eu ef
        go_wp2_with (first
          | (go_at_call 28; (with_reducible refine (Free_r HS.out E1.out _ ?ha).mono ?_); (case ha => exact HA.out); rintro e w5 ⟨rfl, hA5, hT⟩; have A5 := Aside0.mk hA5; have D5 := Aside0.mk (hT.at HD.out HNE.out.symm); have B5 := Aside0.mk (hT.below HB.out hg (Nat.le_refl _)); clear hA5 hT)
          | (go_at_call 28; (with_reducible refine (Free_r HT.out E2.out _ ?ha).mono ?_); (case ha => exact D5.out); rintro e w6 ⟨rfl, hD6, hT⟩; have D6 := Aside0.mk hD6; have A6 := Aside0.mk (hT.at A5.out HNE.out); have B6 := Aside0.mk (hT.below B5.out hd (Nat.le_refl _)); clear hD6 hT)
          | (go_at_call 32; (with_reducible refine (Used_r EU1.out _ ?ha).mono ?_); (case ha => exact A6.out); rintro e w7 ⟨rfl, hd⟩; have A7 := Aside0.mk (A6.out.drawn hd); have D7 := Aside0.mk (D6.out.drawn hd); have B7 := Aside0.mk (below_step B6.out hd.below); clear hd)
          | (go_at_call 32; (with_reducible refine (Used_r EU2.out _ ?ha).mono ?_); (case ha => exact D7.out); rintro e w8 ⟨rfl, hd⟩; have A8 := Aside0.mk (A7.out.drawn hd); have D8 := Aside0.mk (D7.out.drawn hd); have B8 := Aside0.mk (below_step B7.out hd.below); clear hd)
          | (go_at_call 35; (with_reducible refine (Slots_r HS2.out ES1.out _ ?ha).mono ?_); (case ha => exact A8.out); rintro e w9 ⟨rfl, hb⟩; have A9 := Aside0.mk (A8.out.below hb); have D9 := Aside0.mk (D8.out.below hb); have B9 := Aside0.mk (below_step B8.out hb); clear hb)
          | (go_at_call 35; (with_reducible refine (Slots_r HT2.out ES2.out _ ?ha).mono ?_); (case ha => exact D9.out); rintro e w10 ⟨rfl, hb⟩; have A10 := Aside0.mk (A9.out.below hb); have D10 := Aside0.mk (D9.out.below hb); have B10 := Aside0.mk (below_step B9.out hb); clear hb))
        go_roundg (gk - 1)
        case measure => omega
        case rel => exact ⟨i + 1, rfl, ⟨_, _, by omega, by omega, by omega, HS2.out, HT2.out, HSH2.out, A10.out, D10.out, B10.out⟩⟩
      · have hz2 : (z.f0 == 3) = false := by simp [hz]
        obtain ⟨e1, e3, e2⟩ := HSH.out.take (mem := z.f2) hy0 hid0.1
        obtain ⟨er, eer⟩ : ∃ er, takeErr s id z.f2 = er := ⟨_, rfl⟩
        obtain ⟨en, een⟩ : ∃ er, takeSlot s id z.f2 = er := ⟨_, rfl⟩
        rw [eer] at e1
        rw [een] at e3
        have E1 := Aside0.mk eer
        have E2 := Aside0.mk e1
        have N1 := Aside0.mk een
        have N2 := Aside0.mk e3
        have HSH2 := Aside0.mk e2
        have HS2 := Aside0.mk (inv_take HS.out id z.f2)
        have HT2 := Aside0.mk (inv_take HT.out (id + y) z.f2)
        clear e1 e2 e3 eer een
        obtain ⟨u, eu⟩ : ∃ u, (takeSt s id z.f2).used = u := ⟨_, rfl⟩
        obtain ⟨f, ef⟩ : ∃ f, Ld.slots (takeSt s id z.f2) = f := ⟨_, rfl⟩
        have EU1 := Aside0.mk eu
        have EU2 := Aside0.mk (HSH2.out.u.trans eu)
        have ES1 := Aside0.mk ef
        have ES2 := Aside0.mk (HSH2.out.slots.trans ef)
        clear eu ef
        go_wp2_with (first
          | (go_at_call 26; (with_reducible refine (Take_r HS.out N1.out E1.out _ ?ha).mono ?_); (case ha => exact HA.out); rintro e w5 ⟨rfl, hA5, hT⟩; have A5 := Aside0.mk hA5; have D5 := Aside0.mk (hT.at HD.out HNE.out.symm); have B5 := Aside0.mk (hT.below HB.out hg (Nat.le_refl _)); obtain ⟨_, rfl, c5⟩ := hcell.out w5 B5.out; clear hA5 hT)
          | (go_at_call 26; (with_reducible refine (Take_r HT.out N2.out E2.out _ ?ha).mono ?_); (case ha => exact D5.out); rintro e w6 ⟨rfl, hD6, hT⟩; have D6 := Aside0.mk hD6; have A6 := Aside0.mk (hT.at A5.out HNE.out); have B6 := Aside0.mk (hT.below B5.out hd (Nat.le_refl _)); clear hD6 hT)
          | (go_at_call 32; (with_reducible refine (Used_r EU1.out _ ?ha).mono ?_); (case ha => exact A6.out); rintro e w7 ⟨rfl, hd⟩; have A7 := Aside0.mk (A6.out.drawn hd); have D7 := Aside0.mk (D6.out.drawn hd); have B7 := Aside0.mk (below_step B6.out hd.below); clear hd)
          | (go_at_call 32; (with_reducible refine (Used_r EU2.out _ ?ha).mono ?_); (case ha => exact D7.out); rintro e w8 ⟨rfl, hd⟩; have A8 := Aside0.mk (A7.out.drawn hd); have D8 := Aside0.mk (D7.out.drawn hd); have B8 := Aside0.mk (below_step B7.out hd.below); clear hd)
          | (go_at_call 35; (with_reducible refine (Slots_r HS2.out ES1.out _ ?ha).mono ?_); (case ha => exact A8.out); rintro e w9 ⟨rfl, hb⟩; have A9 := Aside0.mk (A8.out.below hb); have D9 := Aside0.mk (D8.out.below hb); have B9 := Aside0.mk (below_step B8.out hb); clear hb)
          | (go_at_call 35; (with_reducible refine (Slots_r HT2.out ES2.out _ ?ha).mono ?_); (case ha => exact D9.out); rintro e w10 ⟨rfl, hb⟩; have A10 := Aside0.mk (A9.out.below hb); have D10 := Aside0.mk (D9.out.below hb); have B10 := Aside0.mk (below_step B9.out hb); clear hb))
        go_roundg (gk - 1)
        case measure => omega
        case rel => exact ⟨i + 1, rfl, ⟨_, _, by omega, by omega, by omega, HS2.out, HT2.out, HSH2.out, A10.out, D10.out, B10.out⟩⟩
    · have hdd : ¬ i < l.length ∨ (i < l.length ∧ (100 : Int) ≤ (i : Int)) := by omega
      clear hR hs ht hsh ha hdt hbw hlt
      rcases hdd with b1 | ⟨b1, b2⟩
      · go_wp2
        go_ret
        exact ⟨rfl, HB.out⟩
      · have n2 : ¬ (i : Int) < 100 := by omega
        go_wp2
        go_ret
        exact ⟨rfl, HB.out⟩
end Go.Proofs.Ytkldfjlbgmppfab.Ld
