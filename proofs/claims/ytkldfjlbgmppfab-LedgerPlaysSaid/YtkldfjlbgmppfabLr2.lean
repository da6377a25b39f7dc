/- The document's Free. -/
import Derived.Test.YtkldfjlbgmppfabLq
namespace Go.Proofs.Ytkldfjlbgmppfab.Ld
open Go.RowKit Go.Proofs.YtkldfjlbgmppfabW.PrintWords Go.Proofs.YtkldfjlbgmppfabW.PrintLast Go.Proofs.YtkldfjlbgmppfabW.PrintMore
set_option linter.unusedVariables false
set_option linter.unusedSimpArgs false
attribute [local go_sem] max2_int min2_int max_two min_two
theorem info74 : (Try.prog.info? 74).map (fun i => (i.zero, i.size, i.bytes)) = some (some (.agg #[.int .i64 0, .int .i64 0, .int .i64 0]), 3, 24) := by kernel_rfl
theorem R_empty (w : World) (base : Nat) (ok : Nat → Prop) (hb : base ≤ w.heap.size) (hok : ok w.heap.size) : Kd.R k74 74 (w.alloc (.cells #[] 74)) base ok (.slice (some ⟨w.heap.size, 0, none⟩) 0 0) [] := by
  refine ⟨fun k hk => ?_, [], World.ownsRow_lit w #[] 0 hb (by simp [maxLen]) rfl, Reps.none _ _⟩
  have : w.heap.size = k := by simpa [Value.ownBlock] using hk
  subst this; exact hok
theorem RefAt.block {w : World} {base g : Nat} {ok : Nat → Prop} {B K : Int} {xs : List S74} (h : RefAt w base g ok B K xs) : ∃ v, w.heap[g]? = some (.cells #[.int .i64 B, .int .i64 K, v] 35 (0, 0)) := by
  obtain ⟨v, h1, _⟩ := h; exact ⟨v, h1⟩
theorem RefAt.frozen {w : World} {base g : Nat} {ok : Nat → Prop} {B K : Int} {xs : List S74} (h : RefAt w base g ok B K xs) (k : Nat) : w.frozen? ⟨g, k, none⟩ = false := by
  obtain ⟨v, h1, _⟩ := h; exact blk_frozen h1 k
/-- Another list is put into it. -/
theorem RefAt.put {w : World} {base b2 g : Nat} {ok : Nat → Prop} {B K : Int} {xs ys : List S74} {v : Value} (h : RefAt w base g ok B K xs) (hr : Kd.R k74 74 w b2 ok v ys) (hb : base ≤ b2) : RefAt (w.setCell ⟨g, 2, none⟩ v) base g ok B K ys := by
  obtain ⟨u, h1, _⟩ := h
  exact ⟨v, blk_put h1 2 v rfl, Kd.R_lower (Kd.R_set hr h1 (fun q hq => by
    have hq : q ∈ ([74] : List Nat) := hq
    have : q = 74 := by simpa using hq
    omega) 2 v) hb⟩
/-- What Free, or Take, of the document's leaves. -/
def RefPost (g base : Nat) (ok : Nat → Prop) (B K : Int) (s' : Led) (v : Value) (w : World) (e : Ending) (w' : World) : Prop := e = .returned v ∧ (∃ xs', Rel s' xs' ∧ RefAt w' base g ok B K xs') ∧ Touch g w w'

set_option maxHeartbeats 8000000 in
set_option maxRecDepth 100000 in
theorem RFree_calls (g base : Nat) (ok : Nat → Prop) (B K : Int) (s : Led) (xs : List S74) (id : Int) (w : World) (hs : Inv s) (hrel : Rel s xs) (href : RefAt w base g ok B K xs) (hb : base ≤ w.heap.size) (hok : ∀ k, w.heap.size ≤ k → ok k) :
    Calls Try.prog 29 #[.pointer (some ⟨g, 0, none⟩), .int .i64 id] w (RefPost g base ok B K (freeSt s id) (.int .i64 (freeErr s id)) w) := by
  have hlen := hrel.le hs
  have HREF := Aside0.mk href
  have HREL := Aside0.mk hrel
  have HS := Aside0.mk hs
  have HOK := Aside0.mk hok
  clear href hrel hs hok
  go_enter Try.func29, Try.ntmps29
  go_upto_block 0 with fail
  go_cut [5] (fun v5 wc => Aside0 (∃ ys, ys = xs.filter (fun y => y.f0 != id) ∧ Kd.R k74 74 wc w.heap.size ok v5 ys ∧ Below w.heap.size w wc))
  case first =>
    go_wp2
    go_loopg [5, 6] (xs.length + 1) (fun kq v5 v6 wr => ∃ i : Nat, v6 = .int .i64 (i : Int) ∧ Aside0 (∃ ys, kq + i = xs.length + 1 ∧ i ≤ xs.length ∧ ys = (xs.take i).filter (fun y => y.f0 != id) ∧ Kd.R k74 74 wr w.heap.size ok v5 ys ∧ Below w.heap.size w wr))
    case atStart => exact ⟨0, rfl, ⟨[], by omega, by omega, rfl, R_empty w _ ok (Nat.le_refl _) (HOK.out _ (Nat.le_refl _)), below_alloc (Below.refl _ _) _⟩⟩
    case round =>
      obtain ⟨i, rfl, hR⟩ := hrel
      obtain ⟨ys, hk, hi, hys, hown, hbw⟩ := hR.out
      obtain ⟨A, c, hris⟩ := (HREF.out.below hbw).is
      have l2 := hris.l
      have HY := Aside0.mk hys
      have HO := Aside0.mk hown
      have HB := Aside0.mk hbw
      have hyl : ys.length ≤ 16 := by rw [hys]; exact Nat.le_trans (List.length_filter_le _ _) (Nat.le_trans (List.length_take_le _ _) (by omega))
      by_cases hlt : i < xs.length
      · obtain ⟨ad, rfl, d0, d1, d2⟩ := at_item hris.r i hlt
        have p1 : (0 ≤ (i : Int)) = True := eq_true (by omega)
        have p2 : ((i : Int) < (xs.length : Int)) = True := eq_true (by omega)
        have HT := Aside0.mk (take_item xs i hlt)
        generalize hz : rdi xs i = z at d0 d1 d2
        have HZ := Aside0.mk hz
        clear hR hys hown hbw hris hz
        by_cases hq : z.f0 = id
        · have hq2 : (z.f0 != id) = false := by simp [hq]
          have hq3 : (z.f0 == id) = true := by simp [hq]
          have HN : Aside0 (ys = (xs.take (i + 1)).filter (fun y => y.f0 != id)) := ⟨by rw [HT.out, List.filter_append, ← HY.out, HZ.out]; simp [hq]⟩
          clear hq
          go_wp2
          go_roundg (gk - 1)
          case measure => omega
          case rel => exact ⟨i + 1, rfl, ⟨ys, by omega, by omega, HN.out, HO.out, HB.out⟩⟩
        · have hq2 : (z.f0 != id) = true := by simp [hq]
          have hq3 : (z.f0 == id) = false := by simp [hq]
          have HN : Aside0 (ys ++ [z] = (xs.take (i + 1)).filter (fun y => y.f0 != id)) := ⟨by rw [HT.out, List.filter_append, ← HY.out, HZ.out]; simp [hq]⟩
          clear hq
          go_wp2_with (at_builtin; refine Kd.R_append k74 (w0 := w) w.heap.size rfl (.tmp 27) (.tmp 35) 33 74 (.agg #[.int .i64 0, .int .i64 0, .int .i64 0]) 24 rfl Try.underlying33 info74 rfl (by decide) (by omega) u5 ys z [.int .i64 z.f0, .int .i64 z.f1, .int .i64 z.f2] ok (fun _ => False) rfl rfl ?aP (fun _ hk => hk.elim) ?aF ?aO ?aB ?aS ?aL ?_; (case aP => exact k74_mkM _ _ _ z); (case aB => exact HB.out); (case aF => exact (fun k hk => HOK.out k (Nat.le_trans HB.out.size hk))); (case aO => exact HO.out); (case aS => exact HB.out.size); (case aL => omega); intro v1 w1 ho hb hg hat; have HO1 := Aside0.mk ho; have HB1 := Aside0.mk hb; clear ho hb hg hat)
          go_roundg (gk - 1)
          case measure => omega
          case rel => exact ⟨i + 1, rfl, ⟨ys ++ [z], by omega, by omega, HN.out, HO1.out, HB1.out⟩⟩
      · have HN : Aside0 (ys = xs.filter (fun y => y.f0 != id)) := ⟨by rw [HY.out, List.take_of_length_le (by omega)]⟩
        clear hR hys hown hbw hris
        go_wp2
        go_meet
        exact ⟨ys, HN.out, HO.out, HB.out⟩
  case rest =>
    obtain ⟨ys, hys, hown, hbw⟩ := hcut.out
    obtain ⟨A, c, hris⟩ := (HREF.out.below hbw).is
    obtain ⟨A2, c2, rfl, _⟩ := Kd.R_reads hown
    have l2 := hris.l
    have HY := Aside0.mk hys
    have HO := Aside0.mk hown
    have HB := Aside0.mk hbw
    have f2 := (HREF.out.below hbw).frozen 2
    by_cases he : freeErr s id = 0
    · obtain ⟨i, hF⟩ := freed HS.out he
      obtain ⟨hr2, hl2⟩ := HREL.out.drop HS.out hF
      rw [← hys] at hr2 hl2
      have HR2 := Aside0.mk hr2
      have HE := Aside0.mk he
      have hyl : ¬ ys.length = xs.length := by omega
      have hyl2 : (ys.length == xs.length) = false := by simp; omega
      clear hcut hys hown hbw hris he hF hr2 hl2
      go_wp2
      go_ret
      exact ⟨by rw [HE.out]; rfl, ⟨ys, HR2.out, (HREF.out.below HB.out).put HO.out hb⟩, (Touch.of_below HB.out g).set _ _⟩
    · obtain ⟨e6, e7, e8⟩ := free_no he
      have hk := HREL.out.keep HS.out e8
      have HE := Aside0.mk e6
      have HST := Aside0.mk e7
      have HYX := Aside0.mk (hys.trans hk)
      have hyl2 : Aside0 (ys.length = xs.length) := ⟨by rw [hys, hk]⟩
      have hyl3 : (ys.length == xs.length) = true := by simp [hyl2.out]
      clear hcut hys hown hbw hris he e6 e7 e8 hk
      go_wp2
      go_ret
      exact ⟨by rw [HE.out]; rfl, ⟨xs, by rw [HST.out]; exact HREL.out, HREF.out.below HB.out⟩, Touch.of_below HB.out g⟩
end Go.Proofs.Ytkldfjlbgmppfab.Ld
