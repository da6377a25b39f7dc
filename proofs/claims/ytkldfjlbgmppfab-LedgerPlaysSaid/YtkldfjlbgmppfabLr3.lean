/- The document's Take. -/
import Derived.Test.YtkldfjlbgmppfabLr2
namespace Go.Proofs.Ytkldfjlbgmppfab.Ld
open Go.RowKit Go.Proofs.YtkldfjlbgmppfabW.PrintWords Go.Proofs.YtkldfjlbgmppfabW.PrintLast Go.Proofs.YtkldfjlbgmppfabW.PrintMore
set_option linter.unusedVariables false
set_option linter.unusedSimpArgs false
attribute [local go_sem] max2_int min2_int max_two min_two
theorem Drawn0.trans {a b c : World} (h : Drawn0 a b) (k : Drawn0 b c) : Drawn0 a c := by
  obtain ⟨m, rfl⟩ := k; exact h.step m
theorem RefPost.no {g base : Nat} {ok : Nat → Prop} {B K : Int} {s : Led} {xs : List S74} {id mem n : Int} {w w' : World} (h : takeErr s id mem = n) (h0 : n ≠ 0) (hrel : Rel s xs) (href : RefAt w base g ok B K xs) (hd : Drawn0 w w') :
    RefPost g base ok B K (takeSt s id mem) (.tuple #[.int .i64 (takeSlot s id mem), .int .i64 (takeErr s id mem)]) w (.returned (.tuple #[.int .i64 0, .int .i64 n])) w' := by
  obtain ⟨h1, h2⟩ := take_no (show takeErr s id mem ≠ 0 by rw [h]; exact h0)
  unfold RefPost
  rw [h1, h2, h]
  exact ⟨rfl, ⟨xs, hrel, href.drawn hd⟩, Touch.of_below hd.below g⟩
theorem k74_KM {w : World} {base : Nat} {ok : Nat → Prop} (x : S74) (cs : List Value) (h : k74.K w x cs) : k74.M w base ok x cs := by
  obtain rfl := k74_open h; exact k74_mkM _ _ _ x
theorem RefAt.isDrawn {w w1 : World} {base g : Nat} {ok : Nat → Prop} {B K : Int} {xs : List S74} (h : RefAt w base g ok B K xs) (hd : Drawn0 w w1) : ∃ A c, RefIs w1 g B K xs A c := (h.drawn hd).is
theorem RefIs.drawn {w w1 : World} {g : Nat} {B K : Int} {xs : List S74} {A : Option Addr} {c : Nat} (h : RefIs w g B K xs A c) (hd : Drawn0 w w1) : RefIs w1 g B K xs A c := by
  obtain ⟨n, rfl⟩ := hd
  exact ⟨h.b, h.k, h.l, h.r, h.n⟩

set_option maxHeartbeats 8000000 in
set_option maxRecDepth 100000 in
theorem RTake_calls (g base : Nat) (ok : Nat → Prop) (B K P : Int) (s : Led) (xs : List S74) (id mem : Int) (w : World) (hs : Inv s) (hrel : Rel s xs) (href : RefAt w base g ok B K xs) (hb : base ≤ w.heap.size) (hok : ∀ k, w.heap.size ≤ k → ok k)
    (hP : (B < 0 ∧ P = 0) ∨ (0 ≤ B ∧ P = B)) (hsb : s.budget = P) (hcap : cap16 K = (s.many : Int)) :
    Calls Try.prog 27 #[.pointer (some ⟨g, 0, none⟩), .int .i64 id, .int .i64 mem] w (RefPost g base ok B K (takeSt s id mem) (.tuple #[.int .i64 (takeSlot s id mem), .int .i64 (takeErr s id mem)]) w) := by
  have hlen := hrel.le hs
  have hlen2 : xs.length ≤ 1000 := by omega
  obtain ⟨A, c, his⟩ := href.is
  have l0 := his.b
  have l2 := his.l
  have f2 := href.frozen 2
  obtain ⟨t, ht⟩ : ∃ t, fnd (isOf id) s = t := ⟨_, rfl⟩
  obtain ⟨r, hr⟩ : ∃ r, fnd isFree s = r := ⟨_, rfl⟩
  obtain ⟨a, hia⟩ : ∃ a, slotI s id = a := ⟨_, rfl⟩
  obtain ⟨q, hq⟩ : ∃ q, s.budget - s.used = q := ⟨_, rfl⟩
  obtain ⟨F, hF⟩ : ∃ F, slots s = F := ⟨_, rfl⟩
  have hu0 := hs.pos
  have hub := hs.le
  have hbig := hs.big
  have hFr : 0 < F ↔ 0 ≤ r := by rw [← hF, ← hr]; exact slots_pos_iff
  have hF0 := slots_le hs
  rw [hF] at hF0
  have hsm := hs.many
  have hrs := hrel.slot hs id
  have hjb : slotB s id = decide (0 ≤ t) := by unfold slotB; rw [ht]
  rw [hia, hjb] at hrs
  obtain ⟨U, hU⟩ : ∃ U, s.used = U := ⟨_, rfl⟩
  rw [hsb, hU] at hub hq
  rw [hU] at hu0
  rw [hsb] at hbig
  have hsum : sumM xs = U := by rw [hrel.sum, hU]
  have hnn := hrel.nonneg hs
  have hnn2 : ∀ i, i < xs.length → 0 ≤ (rdi xs i).f2 := fun i hi => hnn _ (rdi_mem hi)
  have hst : ∀ i, i ≤ xs.length → 0 ≤ sumM (xs.take i) ∧ sumM (xs.take i) ≤ 9223372036854775807 := fun i _ => by
    have := sumM_take hnn i
    rw [hsum] at this
    omega
  have hslots : cap16 K - (xs.length : Int) = F := by rw [hcap]; have := hrel.len; rw [hF] at this; omega
  have HSI := Aside0.mk hrs.1
  have HSB := Aside0.mk hrs.2
  have HIS := Aside0.mk his
  have HREF := Aside0.mk href
  have HREL := Aside0.mk hrel
  have HS := Aside0.mk hs
  have HOK := Aside0.mk hok
  have QS : Aside0 (∀ (W : World), Drawn0 w W → ∀ n, Calls Try.prog 36 #[.pointer (some ⟨g, 0, none⟩)] (W.drewN n) fun e w' => e = .returned (.int .i64 F) ∧ ∃ m, w' = (W.drewN n).drewN m) := ⟨fun W hd n => by
    rw [← hslots]
    exact (RSlots_calls g B K xs A c _ ((HIS.out.drawn hd).drawn ⟨⟨n, rfl⟩⟩) hlen2).mono fun e w' ⟨h1, h2⟩ => ⟨h1, h2.out⟩⟩
  have QU : Aside0 (∀ (W : World), Drawn0 w W → ∀ n, Calls Try.prog 33 #[.pointer (some ⟨g, 0, none⟩)] (W.drewN n) fun e w' => e = .returned (.int .i64 U) ∧ ∃ m, w' = (W.drewN n).drewN m) := ⟨fun W hd n => by
    rw [← hsum]
    exact (RUsed_calls g B K xs A c _ ((HIS.out.drawn hd).drawn ⟨⟨n, rfl⟩⟩) hlen2 hnn2 hst).mono fun e w' ⟨h1, h2⟩ => ⟨h1, h2.out⟩⟩
  have HH : Aside0 (takeErr s id mem = if id < 0 ∨ mem < 0 then 1 else if P < mem then 5 else if 0 ≤ t then 8 else if r < 0 ∨ q < mem then 4 else 0) := ⟨by unfold takeErr; rw [hsb, ht, hr, hU, hq]⟩
  have HRR := Aside0.mk hr
  have HQ := Aside0.mk hq
  clear hrs hjb his href hrel hs hok hslots hnn hnn2 hst hsum hF ht hr hia hq hU hsb hcap
  rcases hP with ⟨hB0, rfl⟩ | ⟨hB0, hPB⟩
  · by_cases h1 : id < 0
    · have HE : Aside0 (takeErr s id mem = 1) := ⟨by rw [HH.out, if_pos (.inl h1)]⟩
      go_enter Try.func27, Try.ntmps27
      go_wp2_with (go_at_call 31; (with_reducible refine (RSlot_calls g B K xs A c id _ ?hr hlen2).mono ?_); (case hr => exact HIS.out); rintro e w1 ⟨rfl, hd⟩; simp only [HSI.out, HSB.out]; have D1 := Aside0.mk hd; clear hd)
      go_ret2
      exact RefPost.no HE.out (by decide) HREL.out HREF.out (by first | exact D1.out | exact Drawn0.refl _)
    by_cases h2 : mem < 0
    · have HE : Aside0 (takeErr s id mem = 1) := ⟨by rw [HH.out, if_pos (.inr h2)]⟩
      go_enter Try.func27, Try.ntmps27
      go_wp2_with (go_at_call 31; (with_reducible refine (RSlot_calls g B K xs A c id _ ?hr hlen2).mono ?_); (case hr => exact HIS.out); rintro e w1 ⟨rfl, hd⟩; simp only [HSI.out, HSB.out]; have D1 := Aside0.mk hd; clear hd)
      go_ret2
      exact RefPost.no HE.out (by decide) HREL.out HREF.out (by first | exact D1.out | exact Drawn0.refl _)
    have HH2 : Aside0 (takeErr s id mem = if (0 : Int) < mem then 5 else if 0 ≤ t then 8 else if r < 0 ∨ q < mem then 4 else 0) := ⟨by rw [HH.out, if_neg (by omega)]⟩
    by_cases h3 : (0 : Int) < mem
    · have HE : Aside0 (takeErr s id mem = 5) := ⟨by rw [HH2.out, if_pos h3]⟩
      go_enter Try.func27, Try.ntmps27
      go_wp2_with (go_at_call 31; (with_reducible refine (RSlot_calls g B K xs A c id _ ?hr hlen2).mono ?_); (case hr => exact HIS.out); rintro e w1 ⟨rfl, hd⟩; simp only [HSI.out, HSB.out]; have D1 := Aside0.mk hd; clear hd)
      go_ret2
      exact RefPost.no HE.out (by decide) HREL.out HREF.out (by first | exact D1.out | exact Drawn0.refl _)
    by_cases h4 : 0 ≤ t
    · have HE : Aside0 (takeErr s id mem = 8) := ⟨by rw [HH2.out, if_neg h3, if_pos h4]⟩
      go_enter Try.func27, Try.ntmps27
      go_wp2_with (go_at_call 31; (with_reducible refine (RSlot_calls g B K xs A c id _ ?hr hlen2).mono ?_); (case hr => exact HIS.out); rintro e w1 ⟨rfl, hd⟩; simp only [HSI.out, HSB.out]; have D1 := Aside0.mk hd; clear hd)
      go_ret2
      exact RefPost.no HE.out (by decide) HREL.out HREF.out (by first | exact D1.out | exact Drawn0.refl _)
    by_cases h5 : r < 0
    · have HE : Aside0 (takeErr s id mem = 4) := ⟨by rw [HH2.out, if_neg h3, if_neg h4, if_pos (.inl h5)]⟩
      obtain rfl : F = 0 := by omega
      clear hFr
      go_enter Try.func27, Try.ntmps27
      go_upto_region 8 with (go_at_call 31; (with_reducible refine (RSlot_calls g B K xs A c id _ ?hr hlen2).mono ?_); (case hr => exact HIS.out); rintro e w1 ⟨rfl, hd⟩; simp only [HSI.out, HSB.out]; have D1 := Aside0.mk hd; clear hd)
      have l1 := (HIS.out.drawn D1.out).b
      go_quiet ((first | (go_at_call 36; exact Calls.quiet_of (QS.out _ D1.out _)) | (go_at_call 33; exact Calls.quiet_of (QU.out _ D1.out _))))
      go_wp2
      go_ret2
      exact RefPost.no HE.out (by decide) HREL.out HREF.out (by repeat (first | exact D1.out | apply Drawn0.step))
    have hF1 : 0 < F := hFr.2 (by omega)
    have hF2 : (F == 0) = false := by simp; omega
    clear hFr
    by_cases h6 : q < mem
    · have HE : Aside0 (takeErr s id mem = 4) := ⟨by rw [HH2.out, if_neg h3, if_neg h4, if_pos (.inr h6)]⟩
      exfalso; have := HQ.out; omega
    have he : takeErr s id mem = 0 := by rw [HH2.out, if_neg h3, if_neg h4, if_neg (by omega)]
    obtain ⟨i0, hT⟩ := took HS.out he
    have HE := Aside0.mk he
    have HT := Aside0.mk hT
    have hi16 : i0 < 16 := by have := hT.lt; omega
    have HLOW : Aside0 (∀ k : Nat, k < i0 → atB s (k : Int) = true) := ⟨fun k hk => by rw [atB_held HS.out]; exact hT.low k hk⟩
    have HTOP : Aside0 (atB s (i0 : Int) = false) := ⟨by rw [atB_held HS.out, hT.was]; rfl⟩
    have h7 : ¬ (0 : Int) - U < mem := by rw [HQ.out]; omega
    clear he hT h6
    go_enter Try.func27, Try.ntmps27
    go_upto_region 8 with (go_at_call 31; (with_reducible refine (RSlot_calls g B K xs A c id _ ?hr hlen2).mono ?_); (case hr => exact HIS.out); rintro e w1 ⟨rfl, hd⟩; simp only [HSI.out, HSB.out]; have D1 := Aside0.mk hd; clear hd)
    have l1 := (HIS.out.drawn D1.out).b
    go_quiet ((first | (go_at_call 36; exact Calls.quiet_of (QS.out _ D1.out _)) | (go_at_call 33; exact Calls.quiet_of (QU.out _ D1.out _))))
    have D2 := Aside0.mk (D1.out.step nq)
    generalize w1.drewN nq = w2 at D2 ⊢
    go_upto_block 0 with (go_at_call 38; (with_reducible refine (RAt_calls g B K xs A c _ _ ?hr hlen2).mono ?_); (case hr => exact HIS.out.drawn D2.out); rintro e w3 ⟨rfl, hd⟩; have hra := HREL.out.at HS.out 0; simp only [hra.1, hra.2]; have D3 := Aside0.mk (Drawn0.trans D2.out hd); clear hd hra)
    go_cut [10] (fun v10 wc => v10 = .int .i64 (i0 : Int) ∧ Drawn0 w wc)
    case first =>
      go_wp2
      go_loopg [10, 12] 17 (fun kq v10 v12 wr => ∃ (k : Nat) (b : Bool), v10 = .int .i64 (k : Int) ∧ v12 = .bool b ∧ Aside0 (kq + k = 17 ∧ k ≤ i0 ∧ b = atB s (k : Int) ∧ Drawn0 w wr))
      case atStart => exact ⟨0, _, rfl, rfl, ⟨by omega, by omega, rfl, D3.out⟩⟩
      case round =>
        obtain ⟨k, b, rfl, rfl, hR⟩ := hrel
        obtain ⟨hk, hki, hbb, hdr⟩ := hR.out
        have HD := Aside0.mk hdr
        clear hR hdr
        by_cases hlt : k < i0
        · obtain rfl : b = true := by rw [hbb]; exact HLOW.out k hlt
          clear hbb
          have HRA := Aside0.mk (HREL.out.at HS.out ((k : Int) + 1))
          have HC : Aside0 (((k : Int) + 1) = ((k + 1 : Nat) : Int)) := ⟨by omega⟩
          go_wp2_with (go_at_call 38; (with_reducible refine (RAt_calls g B K xs A c _ _ ?hr hlen2).mono ?_); (case hr => exact HIS.out.drawn HD.out); rintro e w4 ⟨rfl, hd⟩; simp only [HRA.out.1, HRA.out.2]; have D4 := Aside0.mk (Drawn0.trans HD.out hd); clear hd)
          go_roundg (gk - 1)
          case measure => omega
          case rel => exact ⟨k + 1, _, rfl, rfl, ⟨by omega, by omega, rfl, D4.out⟩⟩
        · have hki2 : Aside0 (k = i0) := ⟨by omega⟩
          obtain rfl : b = false := by rw [hbb, hki2.out]; exact HTOP.out
          clear hbb
          go_wp2
          go_meet
          exact ⟨by rw [hki2.out], HD.out⟩
    case rest =>
      obtain ⟨rfl, hdc⟩ := hcut
      have HD := Aside0.mk hdc
      have BD := Aside0.mk hdc.below
      have hisc := HIS.out.drawn hdc
      have l3 := hisc.l
      have l3a := (HIS.out.drawn hdc).l
      have l4 := Aside0.mk (Kd.C_below hisc.r (below_alloc (Below.refl _ _) (.cells #[] 74)))
      have hsz := hdc.below.size
      have HSZ := Aside0.mk hsz
      clear hdc hisc hsz
      have l5 := pw_cell_below (below_alloc (Below.refl _ wc) (.cells #[] 74)) l3
      go_wp2_with (first
        | ((with_reducible refine gate_builtin (b := .append) (xs := #[.tmp 63, .tmp 67]) rfl ?_); at_builtin; refine Kd.R_append_rows k74 (Rr := k74.K (wc.alloc (.cells #[] 74))) (w0 := w) w.heap.size rfl (.tmp 63) (.tmp 67) 33 74 (.agg #[.int .i64 0, .int .i64 0, .int .i64 0]) 24 rfl Try.underlying33 info74 rfl (by decide) (by omega) (.slice (some ⟨wc.heap.size, 0, none⟩) 0 0) [] xs A xs.length c ok (fun _ => False) rfl rfl ?aO ?aR ?aK (fun _ hk => hk.elim) ?aF ?aB ?aS ?aL ?_; (case aO => exact R_empty wc _ ok HSZ.out (HOK.out _ HSZ.out)); (case aR => exact l4.out); (case aK => exact k74_KM); (case aF => exact (fun k hk => HOK.out k (Nat.le_trans HSZ.out (Nat.le_trans (below_size (below_alloc (Below.refl _ _) _)) hk)))); (case aB => exact below_alloc BD.out _); (case aS => exact below_size (below_alloc BD.out _)); (case aL => simp only [List.length_nil]; omega); intro v1 w5 ho hb hg hat; have HO1 := Aside0.mk ho; have HB1 := Aside0.mk hb; clear ho hb hg hat)
        | ((with_reducible refine gate_builtin (b := .append) (xs := #[.tmp 68, .tmp 73]) rfl ?_); at_builtin; refine Kd.R_append k74 (w0 := w) w.heap.size rfl (.tmp 68) (.tmp 73) 33 74 (.agg #[.int .i64 0, .int .i64 0, .int .i64 0]) 24 rfl Try.underlying33 info74 rfl (by decide) (by omega) v1 xs (⟨id, (i0 : Int), mem⟩ : S74) [.int .i64 id, .int .i64 (i0 : Int), .int .i64 mem] ok (fun _ => False) rfl rfl ?aP (fun _ hk => hk.elim) ?aF ?aO ?aB ?aS ?aL ?_; (case aP => exact k74_mkM _ _ _ (⟨id, (i0 : Int), mem⟩ : S74)); (case aB => exact HB1.out); (case aF => exact (fun k hk => HOK.out k (Nat.le_trans HB1.out.size hk))); (case aO => exact HO1.out); (case aS => exact HB1.out.size); (case aL => omega); intro v2 w6 ho hb hg hat; obtain ⟨A8, c8, rfl⟩ := Kd.R_slice ho; have HO2 := Aside0.mk ho; have HB2 := Aside0.mk hb; have HR2 := Aside0.mk (HREF.out.below hb); have f6 := HR2.out.frozen 2; obtain ⟨A6, c6, i6⟩ := HR2.out.is; have l6 := i6.l; clear ho hb hg hat i6))
      go_ret2
      refine ⟨by rw [HE.out, HT.out.slot]; rfl, ⟨xs ++ [⟨id, (i0 : Int), mem⟩], HREL.out.add HS.out HT.out, HR2.out.put (by have := HO2.out; rw [List.length_append] at this; exact this) hb⟩, (Touch.of_below HB2.out g).set _ _⟩
  · subst hPB
    have hB1 : ¬ P < 0 := by omega
    by_cases h1 : id < 0
    · have HE : Aside0 (takeErr s id mem = 1) := ⟨by rw [HH.out, if_pos (.inl h1)]⟩
      go_enter Try.func27, Try.ntmps27
      go_wp2_with (go_at_call 31; (with_reducible refine (RSlot_calls g P K xs A c id _ ?hr hlen2).mono ?_); (case hr => exact HIS.out); rintro e w1 ⟨rfl, hd⟩; simp only [HSI.out, HSB.out]; have D1 := Aside0.mk hd; clear hd)
      go_ret2
      exact RefPost.no HE.out (by decide) HREL.out HREF.out (by first | exact D1.out | exact Drawn0.refl _)
    by_cases h2 : mem < 0
    · have HE : Aside0 (takeErr s id mem = 1) := ⟨by rw [HH.out, if_pos (.inr h2)]⟩
      go_enter Try.func27, Try.ntmps27
      go_wp2_with (go_at_call 31; (with_reducible refine (RSlot_calls g P K xs A c id _ ?hr hlen2).mono ?_); (case hr => exact HIS.out); rintro e w1 ⟨rfl, hd⟩; simp only [HSI.out, HSB.out]; have D1 := Aside0.mk hd; clear hd)
      go_ret2
      exact RefPost.no HE.out (by decide) HREL.out HREF.out (by first | exact D1.out | exact Drawn0.refl _)
    have HH2 : Aside0 (takeErr s id mem = if P < mem then 5 else if 0 ≤ t then 8 else if r < 0 ∨ q < mem then 4 else 0) := ⟨by rw [HH.out, if_neg (by omega)]⟩
    by_cases h3 : P < mem
    · have HE : Aside0 (takeErr s id mem = 5) := ⟨by rw [HH2.out, if_pos h3]⟩
      go_enter Try.func27, Try.ntmps27
      go_wp2_with (go_at_call 31; (with_reducible refine (RSlot_calls g P K xs A c id _ ?hr hlen2).mono ?_); (case hr => exact HIS.out); rintro e w1 ⟨rfl, hd⟩; simp only [HSI.out, HSB.out]; have D1 := Aside0.mk hd; clear hd)
      go_ret2
      exact RefPost.no HE.out (by decide) HREL.out HREF.out (by first | exact D1.out | exact Drawn0.refl _)
    by_cases h4 : 0 ≤ t
    · have HE : Aside0 (takeErr s id mem = 8) := ⟨by rw [HH2.out, if_neg h3, if_pos h4]⟩
      go_enter Try.func27, Try.ntmps27
      go_wp2_with (go_at_call 31; (with_reducible refine (RSlot_calls g P K xs A c id _ ?hr hlen2).mono ?_); (case hr => exact HIS.out); rintro e w1 ⟨rfl, hd⟩; simp only [HSI.out, HSB.out]; have D1 := Aside0.mk hd; clear hd)
      go_ret2
      exact RefPost.no HE.out (by decide) HREL.out HREF.out (by first | exact D1.out | exact Drawn0.refl _)
    by_cases h5 : r < 0
    · have HE : Aside0 (takeErr s id mem = 4) := ⟨by rw [HH2.out, if_neg h3, if_neg h4, if_pos (.inl h5)]⟩
      obtain rfl : F = 0 := by omega
      clear hFr
      go_enter Try.func27, Try.ntmps27
      go_upto_region 8 with (go_at_call 31; (with_reducible refine (RSlot_calls g P K xs A c id _ ?hr hlen2).mono ?_); (case hr => exact HIS.out); rintro e w1 ⟨rfl, hd⟩; simp only [HSI.out, HSB.out]; have D1 := Aside0.mk hd; clear hd)
      have l1 := (HIS.out.drawn D1.out).b
      go_quiet ((first | (go_at_call 36; exact Calls.quiet_of (QS.out _ D1.out _)) | (go_at_call 33; exact Calls.quiet_of (QU.out _ D1.out _))))
      go_wp2
      go_ret2
      exact RefPost.no HE.out (by decide) HREL.out HREF.out (by repeat (first | exact D1.out | apply Drawn0.step))
    have hF1 : 0 < F := hFr.2 (by omega)
    have hF2 : (F == 0) = false := by simp; omega
    clear hFr
    by_cases h6 : q < mem
    · have HE : Aside0 (takeErr s id mem = 4) := ⟨by rw [HH2.out, if_neg h3, if_neg h4, if_pos (.inr h6)]⟩
      rw [← HQ.out] at h6
      go_enter Try.func27, Try.ntmps27
      go_upto_region 8 with (go_at_call 31; (with_reducible refine (RSlot_calls g P K xs A c id _ ?hr hlen2).mono ?_); (case hr => exact HIS.out); rintro e w1 ⟨rfl, hd⟩; simp only [HSI.out, HSB.out]; have D1 := Aside0.mk hd; clear hd)
      have l1 := (HIS.out.drawn D1.out).b
      go_quiet ((first | (go_at_call 36; exact Calls.quiet_of (QS.out _ D1.out _)) | (go_at_call 33; exact Calls.quiet_of (QU.out _ D1.out _))))
      go_wp2
      go_ret2
      exact RefPost.no HE.out (by decide) HREL.out HREF.out (by repeat (first | exact D1.out | apply Drawn0.step))
    have he : takeErr s id mem = 0 := by rw [HH2.out, if_neg h3, if_neg h4, if_neg (by omega)]
    obtain ⟨i0, hT⟩ := took HS.out he
    have HE := Aside0.mk he
    have HT := Aside0.mk hT
    have hi16 : i0 < 16 := by have := hT.lt; omega
    have HLOW : Aside0 (∀ k : Nat, k < i0 → atB s (k : Int) = true) := ⟨fun k hk => by rw [atB_held HS.out]; exact hT.low k hk⟩
    have HTOP : Aside0 (atB s (i0 : Int) = false) := ⟨by rw [atB_held HS.out, hT.was]; rfl⟩
    have h7 : ¬ P - U < mem := by rw [HQ.out]; omega
    clear he hT h6
    go_enter Try.func27, Try.ntmps27
    go_upto_region 8 with (go_at_call 31; (with_reducible refine (RSlot_calls g P K xs A c id _ ?hr hlen2).mono ?_); (case hr => exact HIS.out); rintro e w1 ⟨rfl, hd⟩; simp only [HSI.out, HSB.out]; have D1 := Aside0.mk hd; clear hd)
    have l1 := (HIS.out.drawn D1.out).b
    go_quiet ((first | (go_at_call 36; exact Calls.quiet_of (QS.out _ D1.out _)) | (go_at_call 33; exact Calls.quiet_of (QU.out _ D1.out _))))
    have D2 := Aside0.mk (D1.out.step nq)
    generalize w1.drewN nq = w2 at D2 ⊢
    go_upto_block 0 with (go_at_call 38; (with_reducible refine (RAt_calls g P K xs A c _ _ ?hr hlen2).mono ?_); (case hr => exact HIS.out.drawn D2.out); rintro e w3 ⟨rfl, hd⟩; have hra := HREL.out.at HS.out 0; simp only [hra.1, hra.2]; have D3 := Aside0.mk (Drawn0.trans D2.out hd); clear hd hra)
    go_cut [10] (fun v10 wc => v10 = .int .i64 (i0 : Int) ∧ Drawn0 w wc)
    case first =>
      go_wp2
      go_loopg [10, 12] 17 (fun kq v10 v12 wr => ∃ (k : Nat) (b : Bool), v10 = .int .i64 (k : Int) ∧ v12 = .bool b ∧ Aside0 (kq + k = 17 ∧ k ≤ i0 ∧ b = atB s (k : Int) ∧ Drawn0 w wr))
      case atStart => exact ⟨0, _, rfl, rfl, ⟨by omega, by omega, rfl, D3.out⟩⟩
      case round =>
        obtain ⟨k, b, rfl, rfl, hR⟩ := hrel
        obtain ⟨hk, hki, hbb, hdr⟩ := hR.out
        have HD := Aside0.mk hdr
        clear hR hdr
        by_cases hlt : k < i0
        · obtain rfl : b = true := by rw [hbb]; exact HLOW.out k hlt
          clear hbb
          have HRA := Aside0.mk (HREL.out.at HS.out ((k : Int) + 1))
          have HC : Aside0 (((k : Int) + 1) = ((k + 1 : Nat) : Int)) := ⟨by omega⟩
          go_wp2_with (go_at_call 38; (with_reducible refine (RAt_calls g P K xs A c _ _ ?hr hlen2).mono ?_); (case hr => exact HIS.out.drawn HD.out); rintro e w4 ⟨rfl, hd⟩; simp only [HRA.out.1, HRA.out.2]; have D4 := Aside0.mk (Drawn0.trans HD.out hd); clear hd)
          go_roundg (gk - 1)
          case measure => omega
          case rel => exact ⟨k + 1, _, rfl, rfl, ⟨by omega, by omega, rfl, D4.out⟩⟩
        · have hki2 : Aside0 (k = i0) := ⟨by omega⟩
          obtain rfl : b = false := by rw [hbb, hki2.out]; exact HTOP.out
          clear hbb
          go_wp2
          go_meet
          exact ⟨by rw [hki2.out], HD.out⟩
    case rest =>
      obtain ⟨rfl, hdc⟩ := hcut
      have HD := Aside0.mk hdc
      have BD := Aside0.mk hdc.below
      have hisc := HIS.out.drawn hdc
      have l3 := hisc.l
      have l3a := (HIS.out.drawn hdc).l
      have l4 := Aside0.mk (Kd.C_below hisc.r (below_alloc (Below.refl _ _) (.cells #[] 74)))
      have hsz := hdc.below.size
      have HSZ := Aside0.mk hsz
      clear hdc hisc hsz
      have l5 := pw_cell_below (below_alloc (Below.refl _ wc) (.cells #[] 74)) l3
      go_wp2_with (first
        | ((with_reducible refine gate_builtin (b := .append) (xs := #[.tmp 63, .tmp 67]) rfl ?_); at_builtin; refine Kd.R_append_rows k74 (Rr := k74.K (wc.alloc (.cells #[] 74))) (w0 := w) w.heap.size rfl (.tmp 63) (.tmp 67) 33 74 (.agg #[.int .i64 0, .int .i64 0, .int .i64 0]) 24 rfl Try.underlying33 info74 rfl (by decide) (by omega) (.slice (some ⟨wc.heap.size, 0, none⟩) 0 0) [] xs A xs.length c ok (fun _ => False) rfl rfl ?aO ?aR ?aK (fun _ hk => hk.elim) ?aF ?aB ?aS ?aL ?_; (case aO => exact R_empty wc _ ok HSZ.out (HOK.out _ HSZ.out)); (case aR => exact l4.out); (case aK => exact k74_KM); (case aF => exact (fun k hk => HOK.out k (Nat.le_trans HSZ.out (Nat.le_trans (below_size (below_alloc (Below.refl _ _) _)) hk)))); (case aB => exact below_alloc BD.out _); (case aS => exact below_size (below_alloc BD.out _)); (case aL => simp only [List.length_nil]; omega); intro v1 w5 ho hb hg hat; have HO1 := Aside0.mk ho; have HB1 := Aside0.mk hb; clear ho hb hg hat)
        | ((with_reducible refine gate_builtin (b := .append) (xs := #[.tmp 68, .tmp 73]) rfl ?_); at_builtin; refine Kd.R_append k74 (w0 := w) w.heap.size rfl (.tmp 68) (.tmp 73) 33 74 (.agg #[.int .i64 0, .int .i64 0, .int .i64 0]) 24 rfl Try.underlying33 info74 rfl (by decide) (by omega) v1 xs (⟨id, (i0 : Int), mem⟩ : S74) [.int .i64 id, .int .i64 (i0 : Int), .int .i64 mem] ok (fun _ => False) rfl rfl ?aP (fun _ hk => hk.elim) ?aF ?aO ?aB ?aS ?aL ?_; (case aP => exact k74_mkM _ _ _ (⟨id, (i0 : Int), mem⟩ : S74)); (case aB => exact HB1.out); (case aF => exact (fun k hk => HOK.out k (Nat.le_trans HB1.out.size hk))); (case aO => exact HO1.out); (case aS => exact HB1.out.size); (case aL => omega); intro v2 w6 ho hb hg hat; obtain ⟨A8, c8, rfl⟩ := Kd.R_slice ho; have HO2 := Aside0.mk ho; have HB2 := Aside0.mk hb; have HR2 := Aside0.mk (HREF.out.below hb); have f6 := HR2.out.frozen 2; obtain ⟨A6, c6, i6⟩ := HR2.out.is; have l6 := i6.l; clear ho hb hg hat i6))
      go_ret2
      refine ⟨by rw [HE.out, HT.out.slot]; rfl, ⟨xs ++ [⟨id, (i0 : Int), mem⟩], HREL.out.add HS.out HT.out, HR2.out.put (by have := HO2.out; rw [List.length_append] at this; exact this) hb⟩, (Touch.of_below HB2.out g).set _ _⟩
end Go.Proofs.Ytkldfjlbgmppfab.Ld
