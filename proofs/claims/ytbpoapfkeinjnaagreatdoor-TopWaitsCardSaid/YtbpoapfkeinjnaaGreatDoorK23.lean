/- The engine of the yard and what it leans on, part 23. -/
import Derived.Test.YtbpoapfkeinjnaaGreatDoorK22
namespace Go.Proofs.YtbpoapfkeinjnaaGreatDoor.Ld
open Go.RowKit Go.Proofs.YtbpoapfkeinjnaaGreatDoorW.PrintWords Go.Proofs.YtbpoapfkeinjnaaGreatDoorW.PrintLast Go.Proofs.YtbpoapfkeinjnaaGreatDoorW.PrintMore
set_option linter.unusedVariables false
set_option linter.unusedSimpArgs false
set_option linter.unnecessarySimpa false
attribute [local go_sem] max2_int min2_int max_two min_two
set_option maxHeartbeats 8000000 in
set_option maxRecDepth 100000 in
theorem tick_calls (S : Nat → Prop) (bm g : Nat) (K : EK) (e : Eng) (o : Opr) (w : World) (H : EngAt S w g K e) (hi : EngInv e) (hs : Sync e) (hg : Glb bm S w) (hl : e.log.length ≤ 900000) :
    Calls Tryz.prog 20 #[.pointer (some ⟨g, 0, none⟩), .agg #[.int .i64 o.k, .int .i64 o.a, .int .i64 o.b, .int .i64 o.c, .int .i64 o.d]] w fun en w' => ∃ a b c d f er e', TickR e (reply a b c d f) er e' ∧ en = .returned (.tuple #[.agg #[.int .i64 a, .int .i64 b, .int .i64 c, .int .i64 d, .int .i64 f], .int .i64 er]) ∧ To S w g K e' w' := by
  have HI := Aside0.mk hi
  have HSY := Aside0.mk hs
  obtain ⟨w0, hw0⟩ : ∃ w0, w0 = (w.alloc (opO o)).alloc rep0 := ⟨_, rfl⟩
  have HW0 := Aside0.mk (show w0 = (w.alloc (.cells #[.int .i64 o.k, .int .i64 o.a, .int .i64 o.b, .int .i64 o.c, .int .i64 o.d] 39)).alloc (.cells #[.int .i64 0, .int .i64 0, .int .i64 0, .int .i64 0, .int .i64 0] 34) from hw0)
  have HL0 := Aside0.mk (show LD bm S w g K e (fun k => S k ∧ k < w.heap.size) w0 w.heap.size o from hw0 ▸ LD.start H hg o)
  have hNb := hi.N
  have hnow := hi.now
  clear H hi hs hg hw0
  go_enter Tryz.func20, Tryz.ntmps20
  go_upto_region 1 with (fail)
  rw [← HW0.out]
  obtain ⟨B, hB⟩ : ∃ B, w.heap.size = B := ⟨_, rfl⟩
  rw [hB] at HL0 ⊢
  obtain ⟨S1, hS1⟩ : ∃ S1 : Nat → Prop, (fun k => S k ∧ k < B) = S1 := ⟨_, rfl⟩
  rw [hS1] at HL0
  clear hS1 hB
  have c18 := HL0.out.l.at_.fnow
  have f18 := HL0.out.l.at_.ffr 18
  obtain ⟨nw, hnw⟩ : ∃ nw, e.now = nw := ⟨_, rfl⟩
  have HNW := Aside0.mk hnw
  rw [hnw] at c18 hnow
  clear hnw
  by_cases hmax : nw = 1099511627776
  · obtain ⟨d0, d1, d2, d3, d4, fb⟩ := reply_cells HL0.out.b
    subst hmax
    go_wp2
    obtain ⟨w3, hw3⟩ : ∃ w3, w3 = ((((w0.setCell ⟨B + 1, 0, none⟩ (.int .i64 0)).setCell ⟨B + 1, 1, none⟩ (.int .i64 0)).setCell ⟨B + 1, 2, none⟩ (.int .i64 0)).setCell ⟨B + 1, 3, none⟩ (.int .i64 0)).setCell ⟨B + 1, 4, none⟩ (.int .i64 0) := ⟨_, rfl⟩
    rw [← hw3]
    obtain ⟨⟨y0, y1, y2, y3, y4⟩, hto⟩ := HL0.out.done _ _ _ _ _ hw3
    refine bodyPost_ret (v := .tuple #[.agg #[.int .i64 0, .int .i64 0, .int .i64 0, .int .i64 0, .int .i64 0], .int .i64 10]) (by simp [results, Tryz.results20, go_sem, y0, y1, y2, y3, y4]) rfl ?_
    exact ⟨0, 0, 0, 0, 0, 10, _, .inl ⟨HNW.out, rfl, rfl, rfl⟩, rfl, hto⟩
  · have p1 : (nw == 1099511627776) = false := by rw [beq_eq_false_iff_ne]; exact hmax
    have p2 : (nw = 1099511627776) = False := eq_false hmax
    have HMX := Aside0.mk hmax
    have hx := (HL0.out.l.at_.snum (nw + 1)).1
    clear hmax
    go_upto_region 4 with (fail)
    obtain ⟨w1, hw1⟩ : ∃ w1, w1 = w0.setCell ⟨g, 18, none⟩ (.int .i64 (nw + 1)) := ⟨_, rfl⟩
    rw [← hw1] at hx ⊢
    have HL1 := Aside0.mk (HL0.out.step hx)
    clear hx hw1 c18 f18 p1 p2
    have c18 : w1.cell? ⟨g, 18, none⟩ = some (.int .i64 (nw + 1)) := HL1.out.l.at_.fnow
    have c14 := HL1.out.l.at_.tm.1
    obtain ⟨S2, htm, hlt2, hback⟩ := HL1.out.l.at_.tm_same
    have HTM := Aside0.mk (show TmAt S2 w1 K.gm e.tm from htm)
    have HLT := Aside0.mk hlt2
    have HBACK := Aside0.mk hback
    clear htm hback hlt2
    go_region_held3 (fun w' => w'.cell? ⟨g, 14, none⟩ = some (.pointer (some ⟨K.gm, 0, none⟩)) ∧ w'.cell? ⟨g, 18, none⟩ = some (.int .i64 (nw + 1))) (first | exact ⟨HX2.out.1, HX2.out.2⟩ | go_keep)
      (first | (go_at_call 46; go_loud (refine (Due_calls S2 K.gm e.tm (nw + 1) _ (HTM.out.keep (Keep.of_below ?q1)) HI.out.tm (by rw [HI.out.tmN]; omega) ?q2).mono ?_); (case q1 => exact pw_below_drewN (Below.refl _ _) 1); (case q2 => exact HLT.out); rintro en w3 ⟨v29, ids, q, rfl, hrow, hleft, htm, hc, hd1, hd2⟩; obtain ⟨AI, ci, hv29⟩ := hrow.slice; subst hv29; have hto := HBACK.out _ _ htm ((Chg.of_below (pw_below_drewN (Below.refl _ w1) 1) _).trans hc); have HDU := Aside0.mk (And.intro hleft (And.intro hd1 hd2)); have HROW := Aside0.mk hrow; have HL3 := Aside0.mk (HL1.out.same hto.1 hto.2); have HX2 := Aside0.mk (And.intro hto.1.tm.1 (show w3.cell? ⟨g, 18, none⟩ = some (.int .i64 (nw + 1)) from hto.1.fnow)); clear hrow hleft htm hc hd1 hd2 hto))
    have HX3 := HX2
    clear HX2 c18 c14
    obtain ⟨L, hL⟩ : ∃ L, ids.length = L := ⟨_, rfl⟩
    have HLL := Aside0.mk hL
    have hL12 : L ≤ 12 := by
      rw [← hL]
      have h := nodup_le ids e.N HDU.out.1.dup (fun x hx => by have := (HDU.out.1.mem x hx).1; rw [HI.out.tmN] at this; exact this)
      omega
    have hri0 := RowAt.ri HROW.out
    obtain ⟨A2, c2, hv2, hri, _⟩ := hri0
    injection hv2 with hv2 _ _
    subst hv2
    have HIN := Aside0.mk (show ∀ x, x ∈ ids → x < e.N from fun x hx => by have := (HDU.out.1.mem x hx).1; rw [HI.out.tmN] at this; exact this)
    have HRI0 := Aside0.mk (And.intro hri (show ∀ a, AI = some a → ¬ (up S1 w0 w1 a.block ∧ a.block < w1.heap.size) ∧ a.block < w3.heap.size from fun a ha => ⟨fun h => by
      have h1 := h.2
      have h2 : w1.heap.size ≤ a.block := HROW.out.fp a.block (by rw [ha]; rfl)
      omega, own_lt HROW.out.own a.block (by rw [ha]; rfl)⟩))
    obtain ⟨E1, hE1⟩ : ∃ E1 : Eng, E1 = { e with now := nw + 1, tm := q } := ⟨_, rfl⟩
    have HE1 := Aside0.mk (show EngInv E1 ∧ Sync E1 ∧ E1.N = e.N ∧ E1.log = e.log from hE1 ▸ ⟨{ HI.out with now := (by have := HMX.out; show 0 ≤ nw + 1 ∧ nw + 1 ≤ 1099511627776; omega), tm := HDU.out.1.inv, tmN := HDU.out.1.la.trans HI.out.tmN }, HSY.out, rfl, rfl⟩)
    have HLX := Aside0.mk (show LD bm S w g K E1 (fun j => up S1 w0 w1 j ∧ j < w1.heap.size) w3 B o from hE1 ▸ HL3.out)
    have HEE := Aside0.mk hE1
    rw [hL]
    clear hL hri hE1
    go_wp2
    go_loopg [31] (L + 1) (fun kq v31 wr => ∃ (j : Nat) (ei : Eng) (Si : Nat → Prop), v31 = .int .i64 (j : Int) ∧ Aside0 (kq + j = L + 1 ∧ j ≤ L ∧ TickFold E1 (ids.take j) ei ∧ EngInv ei ∧ Sync ei ∧ ei.N = e.N ∧ ei.log.length ≤ e.log.length + j ∧ LD bm S w g K ei Si wr B o ∧ RI wr AI (nats ids) ∧ (∀ a, AI = some a → ¬ Si a.block ∧ a.block < wr.heap.size)))
    case atStart => exact ⟨0, E1, _, rfl, ⟨by omega, by omega, TickFold.nil _, HE1.out.1, HE1.out.2.1, HE1.out.2.2.1, by rw [HE1.out.2.2.2]; omega, HLX.out, HRI0.out.1, HRI0.out.2⟩⟩
    case round =>
      obtain ⟨j, ei, Si, rfl, hA⟩ := hrel
      obtain ⟨hkq, hj, hfo, hii, hss, hNi, hlg, hld, hri, hbk⟩ := hA.out
      have HKQ := Aside0.mk hkq
      have HFO := Aside0.mk hfo
      have HII := Aside0.mk (And.intro hii (And.intro hss (And.intro hNi hlg)))
      have HLD := Aside0.mk hld
      have HRI := Aside0.mk (And.intro hri hbk)
      clear hA hkq hfo hii hss hNi hlg hld hri hbk
      by_cases hlt : j < L
      · obtain ⟨ad, rfl, hcell⟩ := RI.at_ HRI.out.1 j (by rw [nats_len, HLL.out]; exact hlt)
        rw [nats_getD _ _ (by rw [HLL.out]; exact hlt)] at hcell
        have hum := getD_mem ids j (by rw [HLL.out]; exact hlt)
        obtain ⟨u, hu⟩ : ∃ u, ids.getD j 0 = u := ⟨_, rfl⟩
        rw [hu] at hcell hum
        have huN := HIN.out u hum
        have huN' : u < ei.N := by rw [HII.out.2.2.1]; exact huN
        have HU := Aside0.mk (show ids.take (j + 1) = ids.take j ++ [u] from by rw [List.take_succ_eq_append_getElem (by rw [HLL.out]; exact hlt), ← hu, List.getD_eq_getElem?_getD, List.getElem?_eq_getElem (by rw [HLL.out]; exact hlt)]; rfl)
        have c11 := HLD.out.l.at_.ftasks
        obtain ⟨ct, _, cl, _, _, _⟩ := HLD.out.l.at_.ftask u huN'
        have HLI := Aside0.mk (HLD.out.l.at_.flife u huN').1
        rw [HII.out.2.2.1] at c11
        obtain ⟨st, hst⟩ : ∃ st, (ei.life u).state = st := ⟨_, rfl⟩
        have HST := Aside0.mk hst
        have q1 : (0 ≤ (j : Int)) = True := eq_true (by omega)
        have q2 : ((j : Int) < (L : Int)) = True := eq_true (by omega)
        have q3 : (0 ≤ (u : Int)) = True := eq_true (by omega)
        have q4 : ((u : Int) < (e.N : Int)) = True := eq_true (by omega)
        clear hst hum hu
        have HUN := Aside0.mk huN'
        clear huN'
        go_upto_block 2 with (go_at_call 30; go_loud (refine (State_calls (K.lp u) (ei.life u) _ HLI.out).mono ?_); rintro en w5 ⟨rfl, hd⟩; rw [HST.out]; have HL5 := Aside0.mk (HLD.out.below hd.below); have HRI5 := Aside0.mk (And.intro (ReadsOf.below HRI.out.1 hd.below) (show ∀ a, some ad = some a → ¬ Si a.block ∧ a.block < w5.heap.size from fun a ha => ⟨(HRI.out.2 a ha).1, by have h1 := (HRI.out.2 a ha).2; have h2 := hd.below.size; omega⟩)); clear hd)
        by_cases h2 : st = 2
        · subst h2
          have HE := Aside0.mk HST.out
          go_upto_region 13 with (first
            | (go_at_call 47; go_loud (refine (ends_calls Si g K ei 5 u _ HL5.out.l.at_ HII.out.1 HUN.out (by have := HII.out.2.2.2; omega)).mono ?_); rintro en w6 ⟨rfl, q6, hq, hto⟩; have HQ := Aside0.mk hq; have HO6 := Aside0.mk (OwnI.step HRI5.out HL5.out hto); have HL6 := Aside0.mk (HL5.out.step hto); have HI6 := Aside0.mk (endsSt_inv HII.out.1 (kind := 5) (t := u) hq); clear hq hto)
            | (go_at_call 48; go_loud (refine (miss_calls _ bm g K (endsSt ei 5 u q6) u _ HL6.out.l.at_ HI6.out (show Sync (endsSt ei 5 u q6) from HII.out.2.1) HL6.out.g HUN.out HE.out).mono ?_); rintro en w7 ⟨rfl, e7, hms, hto⟩; have HMS := Aside0.mk hms; have HO7 := Aside0.mk (OwnI.step HO6.out HL6.out hto); have HL7 := Aside0.mk (HL6.out.step hto); clear hms hto))
          have HV7 := Aside0.mk (HMS.out.inv HI6.out (show Sync (endsSt ei 5 u q6) from HII.out.2.1) HUN.out HE.out)
          go_wp2
          go_roundg (gk - 1)
          case measure => have := HKQ.out; omega
          case rel =>
            refine ⟨j + 1, e7, _, by rw [show ((j : Int) + 1) = ((j + 1 : Nat) : Int) by omega], ⟨by have := HKQ.out; omega, by omega, by rw [HU.out]; exact TickFold.snoc HFO.out (.inl ⟨HE.out, q6, HQ.out, HMS.out⟩), HV7.out.1, HV7.out.2, HMS.out.sm.N.trans HII.out.2.2.1, by rw [HMS.out.sm.log]; show (ei.log ++ [_]).length ≤ _; rw [List.length_append]; simp only [List.length_singleton]; have := HII.out.2.2.2; omega, HL7.out, HO7.out.1, HO7.out.2⟩⟩
        · by_cases h4 : st = 4
          · subst h4
            have HE := Aside0.mk HST.out
            have c11 := HL5.out.l.at_.ftasks
            rw [HII.out.2.2.1] at c11
            obtain ⟨ct, _, cl, _, _, _⟩ := HL5.out.l.at_.ftask u HUN.out
            obtain ⟨hli, hlb⟩ := HL5.out.l.at_.flife u HUN.out
            have HLI5 := Aside0.mk hli
            have HLB5 := Aside0.mk hlb
            clear hli hlb h2
            go_upto_region 13 with (go_at_call 49; go_loud (refine (Rested_calls (K.lp u) (ei.life u) (HII.out.1.life u HUN.out).st _ HLI5.out).mono ?_); rintro en w6 ⟨rfl, h3, k3⟩; have hto := HLB5.out _ _ h3 k3; have HO6 := Aside0.mk (OwnI.step HRI5.out HL5.out hto); have HL6 := Aside0.mk (HL5.out.step hto); clear h3 k3 hto)
            go_wp2
            go_roundg (gk - 1)
            case measure => have := HKQ.out; omega
            case rel =>
              refine ⟨j + 1, retryE ei u, _, by rw [show ((j : Int) + 1) = ((j + 1 : Nat) : Int) by omega], ⟨by have := HKQ.out; omega, by omega, by rw [HU.out]; exact TickFold.snoc HFO.out (.inr (.inl ⟨HE.out, rfl⟩)), HII.out.1.setLife u _ ((HII.out.1.life u HUN.out).step 4 1 (by omega) (by omega)), HII.out.2.1, HII.out.2.2.1, by show ei.log.length ≤ _; have := HII.out.2.2.2; omega, HL6.out, HO6.out.1, HO6.out.2⟩⟩
          · have r2 : (st == 2) = false := by rw [beq_eq_false_iff_ne]; exact h2
            have r4 : (st == 4) = false := by rw [beq_eq_false_iff_ne]; exact h4
            have r2' : (st = 2) = False := eq_false h2
            have r4' : (st = 4) = False := eq_false h4
            have HE := Aside0.mk (And.intro h2 h4)
            clear h2 h4
            go_upto_region 13 with (fail)
            go_wp2
            go_roundg (gk - 1)
            case measure => have := HKQ.out; omega
            case rel =>
              refine ⟨j + 1, ei, _, by rw [show ((j : Int) + 1) = ((j + 1 : Nat) : Int) by omega], ⟨by have := HKQ.out; omega, by omega, by rw [HU.out]; exact TickFold.snoc HFO.out (.inr (.inr ⟨by rw [HST.out]; exact HE.out.1, by rw [HST.out]; exact HE.out.2, rfl⟩)), HII.out.1, HII.out.2.1, HII.out.2.2.1, by have := HII.out.2.2.2; omega, HL5.out, HRI5.out.1, HRI5.out.2⟩⟩
      · have p2 : ((j : Int) < (L : Int)) = False := eq_false (by omega)
        obtain ⟨d0, d1, d2, d3, d4, fb⟩ := reply_cells HLD.out.b
        go_wp2
        obtain ⟨w6, hw6⟩ : ∃ w6, w6 = ((((wr.setCell ⟨B + 1, 0, none⟩ (.int .i64 0)).setCell ⟨B + 1, 1, none⟩ (.int .i64 0)).setCell ⟨B + 1, 2, none⟩ (.int .i64 0)).setCell ⟨B + 1, 3, none⟩ (.int .i64 0)).setCell ⟨B + 1, 4, none⟩ (.int .i64 0) := ⟨_, rfl⟩
        rw [← hw6]
        obtain ⟨⟨y0, y1, y2, y3, y4⟩, hto⟩ := HLD.out.done _ _ _ _ _ hw6
        refine bodyPost_ret (v := .tuple #[.agg #[.int .i64 0, .int .i64 0, .int .i64 0, .int .i64 0, .int .i64 0], .int .i64 0]) (by simp [results, Tryz.results20, go_sem, y0, y1, y2, y3, y4]) rfl ?_
        refine ⟨0, 0, 0, 0, 0, 0, ei, .inr ⟨by rw [HNW.out]; exact HMX.out, rfl, rfl, ids, q, HDU.out.1, by rw [HNW.out]; exact HDU.out.2, ?_⟩, rfl, hto⟩
        have h := HFO.out
        rw [show j = L by omega, ← HLL.out, List.take_length, HEE.out] at h
        rw [HNW.out]
        exact h
end Go.Proofs.YtbpoapfkeinjnaaGreatDoor.Ld
namespace Go.Proofs.YtbpoapfkeinjnaaGreatDoor.Ld
open Go.RowKit Go.Proofs.YtbpoapfkeinjnaaGreatDoorW.PrintWords Go.Proofs.YtbpoapfkeinjnaaGreatDoorW.PrintLast Go.Proofs.YtbpoapfkeinjnaaGreatDoorW.PrintMore
set_option linter.unusedVariables false
set_option linter.unusedSimpArgs false
set_option linter.unnecessarySimpa false
attribute [local go_sem] max2_int min2_int max_two min_two
set_option maxHeartbeats 8000000 in
set_option maxRecDepth 100000 in
theorem asked_yes (S : Nat → Prop) (g : Nat) (K : EK) (e : Eng) (r : Nat) (w : World) (H : EngAt S w g K e) (hr : r < e.nr) (hn : e.nr ≤ 64) :
    Calls Tryz.prog 44 #[.pointer (some ⟨g, 0, none⟩), .int .i64 (r : Int)] w fun en w' => en = .returned (.pointer (some ⟨K.rp r, 0, none⟩)) ∧ Drawn0 w w' := by
  obtain ⟨A, c, c12, cr, _, _⟩ := H.freq r hr
  have q0 : ((r : Int) < 0) = False := eq_false (by omega)
  have q1 : (0 ≤ (r : Int)) = True := eq_true (by omega)
  have q2 : ((r : Int) < (e.nr : Int)) = True := eq_true (by omega)
  have q3 : ((e.nr : Int) ≤ (r : Int)) = False := eq_false (by omega)
  clear H
  go_enter Tryz.func44, Tryz.ntmps44
  go_wp2
  go_ret
  exact ⟨rfl, by repeat (first | exact Drawn0.refl _ | apply Drawn0.step)⟩
set_option maxHeartbeats 8000000 in
set_option maxRecDepth 100000 in
theorem asked_no (S : Nat → Prop) (g : Nat) (K : EK) (e : Eng) (x : Int) (w : World) (H : EngAt S w g K e) (hr : ¬ (0 ≤ x ∧ x < e.nr)) (hn : e.nr ≤ 64) :
    Calls Tryz.prog 44 #[.pointer (some ⟨g, 0, none⟩), .int .i64 x] w fun en w' => en = .returned (.pointer none) ∧ Drawn0 w w' := by
  obtain ⟨A, c, c12⟩ := H.fnr
  clear H
  by_cases h0 : x < 0
  · have q0 : (x < 0) = True := eq_true h0
    go_enter Tryz.func44, Tryz.ntmps44
    go_wp2
    go_ret
    exact ⟨rfl, by repeat (first | exact Drawn0.refl _ | apply Drawn0.step)⟩
  · have q0 : (x < 0) = False := eq_false h0
    have q3 : ((e.nr : Int) ≤ x) = True := eq_true (by omega)
    clear h0 hr
    go_enter Tryz.func44, Tryz.ntmps44
    go_wp2
    go_ret
    exact ⟨rfl, by repeat (first | exact Drawn0.refl _ | apply Drawn0.step)⟩
def QueryR (e : Eng) (o : Opr) (rv : Value) (er : Int) (e' : Eng) : Prop :=
  (¬ (0 ≤ o.a ∧ o.a < e.nr) ∧ rv = reply 0 0 0 0 0 ∧ er = 6 ∧ e' = e) ∨
  (∃ r : Nat, o.a = (r : Int) ∧ r < e.nr ∧ rv = reply 0 (e.rq r).state (e.rq r).root 0 0 ∧ er = 0 ∧ e' = e)
set_option maxHeartbeats 8000000 in
set_option maxRecDepth 100000 in
theorem query_calls (S : Nat → Prop) (bm g : Nat) (K : EK) (e : Eng) (o : Opr) (w : World) (H : EngAt S w g K e) (hi : EngInv e) (hs : Sync e) (hg : Glb bm S w) :
    Calls Tryz.prog 23 #[.pointer (some ⟨g, 0, none⟩), .agg #[.int .i64 o.k, .int .i64 o.a, .int .i64 o.b, .int .i64 o.c, .int .i64 o.d]] w fun en w' => ∃ a b c d f er e', QueryR e o (reply a b c d f) er e' ∧ en = .returned (.tuple #[.agg #[.int .i64 a, .int .i64 b, .int .i64 c, .int .i64 d, .int .i64 f], .int .i64 er]) ∧ To S w g K e' w' := by
  have HI := Aside0.mk hi
  have HSY := Aside0.mk hs
  obtain ⟨w0, hw0⟩ : ∃ w0, w0 = (w.alloc (opO o)).alloc rep0 := ⟨_, rfl⟩
  have HW0 := Aside0.mk (show w0 = (w.alloc (.cells #[.int .i64 o.k, .int .i64 o.a, .int .i64 o.b, .int .i64 o.c, .int .i64 o.d] 39)).alloc (.cells #[.int .i64 0, .int .i64 0, .int .i64 0, .int .i64 0, .int .i64 0] 34) from hw0)
  have HL0 := Aside0.mk (show LD bm S w g K e (fun k => S k ∧ k < w.heap.size) w0 w.heap.size o from hw0 ▸ LD.start H hg o)
  have hNb := hi.N
  have hnrb := hi.nr
  clear H hi hs hg hw0
  go_enter Tryz.func23, Tryz.ntmps23
  go_upto_region 1 with (fail)
  rw [← HW0.out]
  obtain ⟨B, hB⟩ : ∃ B, w.heap.size = B := ⟨_, rfl⟩
  rw [hB] at HL0 ⊢
  obtain ⟨S1, hS1⟩ : ∃ S1 : Nat → Prop, (fun k => S k ∧ k < B) = S1 := ⟨_, rfl⟩
  rw [hS1] at HL0
  clear hS1 hB
  obtain ⟨_, k1, _, _, _⟩ := HL0.out.cells
  obtain ⟨oa, hoa⟩ : ∃ oa, o.a = oa := ⟨_, rfl⟩
  have HOA := Aside0.mk hoa
  rw [hoa] at k1
  clear hoa
  by_cases hin : 0 ≤ oa ∧ oa < e.nr
  · obtain ⟨r, rfl⟩ := Int.eq_ofNat_of_zero_le hin.1
    have hr : r < e.nr := by omega
    clear hin
    go_upto_region 4 with (go_at_call 44; go_loud (refine (asked_yes S1 g K e r _ HL0.out.l.at_ hr hnrb).mono ?_); rintro en w2 ⟨rfl, hd⟩; have HL2 := Aside0.mk (HL0.out.below hd.below); clear hd)
    obtain ⟨_, _, _, _, hb, _⟩ := HL2.out.l.at_.freq r hr
    have e0 := (blk_cell hb 0).trans (show _ = some (Value.int .i64 (e.rq r).root) from rfl)
    have e3 := (blk_cell hb 3).trans (show _ = some (Value.int .i64 (e.rq r).state) from rfl)
    obtain ⟨st, hst⟩ : ∃ st, (e.rq r).state = st := ⟨_, rfl⟩
    obtain ⟨ro, hro⟩ : ∃ ro, (e.rq r).root = ro := ⟨_, rfl⟩
    rw [hst] at e3
    rw [hro] at e0
    have HRS := Aside0.mk (And.intro hst hro)
    clear hst hro hb
    refine Qt.wp_region_quiet_tail 10 (by kernel_rfl) (by kernel_rfl) ?_
    simp only [List.take_succ_cons, List.take_zero, List.drop_succ_cons, List.drop_zero]
    repeat (go_big_quiet_step ((fail)))
    refine wpQuiet_nil ?_
    intro w3 hw3
    have HL3 := Aside0.mk (HL2.out.below (show Below w2.heap.size w2 w3 from by obtain ⟨m, rfl⟩ := hw3; exact pw_below_drewN (Below.refl _ _) m))
    clear hw3 e0 e3
    obtain ⟨d0, d1, d2, d3, d4, fb⟩ := reply_cells HL3.out.b
    go_wp2
    obtain ⟨w4, hw4⟩ : ∃ w4, w4 = ((((w3.setCell ⟨B + 1, 0, none⟩ (.int .i64 0)).setCell ⟨B + 1, 1, none⟩ (.int .i64 st)).setCell ⟨B + 1, 2, none⟩ (.int .i64 ro)).setCell ⟨B + 1, 3, none⟩ (.int .i64 0)).setCell ⟨B + 1, 4, none⟩ (.int .i64 0) := ⟨_, rfl⟩
    rw [← hw4]
    obtain ⟨⟨y0, y1, y2, y3, y4⟩, hto⟩ := HL3.out.done _ _ _ _ _ hw4
    refine bodyPost_ret (v := .tuple #[.agg #[.int .i64 0, .int .i64 st, .int .i64 ro, .int .i64 0, .int .i64 0], .int .i64 0]) (by simp [results, Tryz.results23, go_sem, y0, y1, y2, y3, y4]) rfl ?_
    exact ⟨0, st, ro, 0, 0, 0, _, .inr ⟨r, HOA.out, hr, by rw [HRS.out.1, HRS.out.2], rfl, rfl⟩, rfl, hto⟩
  · have HNI := Aside0.mk hin
    clear hin
    go_wp2_with (go_at_call 44; go_loud (refine (asked_no S1 g K e oa _ HL0.out.l.at_ HNI.out hnrb).mono ?_); rintro en w2 ⟨rfl, hd⟩; have HL2 := Aside0.mk (HL0.out.below hd.below); obtain ⟨d0, d1, d2, d3, d4, fb⟩ := reply_cells (HL0.out.below hd.below).b; clear hd)
    obtain ⟨w3, hw3⟩ : ∃ w3, w3 = ((((w2.setCell ⟨B + 1, 0, none⟩ (.int .i64 0)).setCell ⟨B + 1, 1, none⟩ (.int .i64 0)).setCell ⟨B + 1, 2, none⟩ (.int .i64 0)).setCell ⟨B + 1, 3, none⟩ (.int .i64 0)).setCell ⟨B + 1, 4, none⟩ (.int .i64 0) := ⟨_, rfl⟩
    rw [← hw3]
    obtain ⟨⟨y0, y1, y2, y3, y4⟩, hto⟩ := HL2.out.done _ _ _ _ _ hw3
    refine bodyPost_ret (v := .tuple #[.agg #[.int .i64 0, .int .i64 0, .int .i64 0, .int .i64 0, .int .i64 0], .int .i64 6]) (by simp [results, Tryz.results23, go_sem, y0, y1, y2, y3, y4]) rfl ?_
    exact ⟨0, 0, 0, 0, 0, 6, _, .inl ⟨by rw [HOA.out]; exact HNI.out, rfl, rfl, rfl⟩, rfl, hto⟩
def CancelR (e : Eng) (o : Opr) (rv : Value) (er : Int) (e' : Eng) : Prop :=
  (¬ (0 ≤ o.a ∧ o.a < e.nr) ∧ rv = reply 0 0 0 0 0 ∧ er = 6 ∧ e' = e) ∨
  (∃ r : Nat, o.a = (r : Int) ∧ r < e.nr ∧
    (((e.rq r).state ≠ 0 ∧ (e.rq r).state ≠ 1 ∧ rv = reply 0 0 0 0 0 ∧ er = 8 ∧ e' = e) ∨
     (((e.rq r).state = 0 ∨ (e.rq r).state = 1) ∧ rv = reply 0 5 0 0 0 ∧ er = 0 ∧ Over (leavesSt e r 5) e')))
set_option maxHeartbeats 8000000 in
set_option maxRecDepth 100000 in
theorem cancel_calls (S : Nat → Prop) (bm g : Nat) (K : EK) (e : Eng) (o : Opr) (w : World) (H : EngAt S w g K e) (hi : EngInv e) (hs : Sync e) (hg : Glb bm S w) :
    Calls Tryz.prog 19 #[.pointer (some ⟨g, 0, none⟩), .agg #[.int .i64 o.k, .int .i64 o.a, .int .i64 o.b, .int .i64 o.c, .int .i64 o.d]] w fun en w' => ∃ a b c d f er e', CancelR e o (reply a b c d f) er e' ∧ en = .returned (.tuple #[.agg #[.int .i64 a, .int .i64 b, .int .i64 c, .int .i64 d, .int .i64 f], .int .i64 er]) ∧ To S w g K e' w' := by
  have HI := Aside0.mk hi
  have HSY := Aside0.mk hs
  obtain ⟨w0, hw0⟩ : ∃ w0, w0 = (w.alloc (opO o)).alloc rep0 := ⟨_, rfl⟩
  have HW0 := Aside0.mk (show w0 = (w.alloc (.cells #[.int .i64 o.k, .int .i64 o.a, .int .i64 o.b, .int .i64 o.c, .int .i64 o.d] 39)).alloc (.cells #[.int .i64 0, .int .i64 0, .int .i64 0, .int .i64 0, .int .i64 0] 34) from hw0)
  have HL0 := Aside0.mk (show LD bm S w g K e (fun k => S k ∧ k < w.heap.size) w0 w.heap.size o from hw0 ▸ LD.start H hg o)
  have hNb := hi.N
  have hnrb := hi.nr
  clear H hi hs hg hw0
  go_enter Tryz.func19, Tryz.ntmps19
  go_upto_region 1 with (fail)
  rw [← HW0.out]
  obtain ⟨B, hB⟩ : ∃ B, w.heap.size = B := ⟨_, rfl⟩
  rw [hB] at HL0 ⊢
  obtain ⟨S1, hS1⟩ : ∃ S1 : Nat → Prop, (fun k => S k ∧ k < B) = S1 := ⟨_, rfl⟩
  rw [hS1] at HL0
  clear hS1 hB
  obtain ⟨_, k1, _, _, _⟩ := HL0.out.cells
  obtain ⟨oa, hoa⟩ : ∃ oa, o.a = oa := ⟨_, rfl⟩
  have HOA := Aside0.mk hoa
  rw [hoa] at k1
  clear hoa
  by_cases hin : 0 ≤ oa ∧ oa < e.nr
  · obtain ⟨r, rfl⟩ := Int.eq_ofNat_of_zero_le hin.1
    have hr : r < e.nr := by omega
    clear hin
    go_upto_block 0 with (go_at_call 44; go_loud (refine (asked_yes S1 g K e r _ HL0.out.l.at_ hr hnrb).mono ?_); rintro en w2 ⟨rfl, hd⟩; have HL2 := Aside0.mk (HL0.out.below hd.below); clear hd)
    obtain ⟨_, _, _, _, hb, _⟩ := HL2.out.l.at_.freq r hr
    have e3 := (blk_cell hb 3).trans (show _ = some (Value.int .i64 (e.rq r).state) from rfl)
    obtain ⟨st, hst⟩ : ∃ st, (e.rq r).state = st := ⟨_, rfl⟩
    rw [hst] at e3
    have HRS := Aside0.mk hst
    have k1' := HL2.out.cells.2.1
    rw [HOA.out] at k1'
    clear hst hb k1
    by_cases h0 : st = 0
    · subst h0
      go_wp2_with (first
        | (go_at_call 45; go_loud (refine (leaves_calls S1 g K e r 5 _ HL2.out.l.at_ HI.out HSY.out hr).mono ?_); rintro en w3 ⟨rfl, hto⟩; have HL3 := Aside0.mk (HL2.out.step hto); clear hto)
        | (go_at_call 43; go_loud (refine (over_calls _ bm g K (leavesSt e r 5) _ HL3.out.l.at_ (leavesSt_inv HI.out HSY.out r 5).1 (leavesSt_inv HI.out HSY.out r 5).2 HL3.out.g).mono ?_); rintro en w4 hpost; obtain ⟨rfl, e4, ho, hto⟩ := hpost; have HOV := Aside0.mk ho; have HL4 := Aside0.mk (HL3.out.step hto); obtain ⟨d0, d1, d2, d3, d4, fb⟩ := reply_cells (HL3.out.step hto).b; clear ho hto))
      obtain ⟨w5, hw5⟩ : ∃ w5, w5 = ((((w4.setCell ⟨B + 1, 0, none⟩ (.int .i64 0)).setCell ⟨B + 1, 1, none⟩ (.int .i64 5)).setCell ⟨B + 1, 2, none⟩ (.int .i64 0)).setCell ⟨B + 1, 3, none⟩ (.int .i64 0)).setCell ⟨B + 1, 4, none⟩ (.int .i64 0) := ⟨_, rfl⟩
      rw [← hw5]
      obtain ⟨⟨y0, y1, y2, y3, y4⟩, hto⟩ := HL4.out.done _ _ _ _ _ hw5
      refine bodyPost_ret (v := .tuple #[.agg #[.int .i64 0, .int .i64 5, .int .i64 0, .int .i64 0, .int .i64 0], .int .i64 0]) (by simp [results, Tryz.results19, go_sem, y0, y1, y2, y3, y4]) rfl ?_
      exact ⟨0, 5, 0, 0, 0, 0, _, .inr ⟨r, HOA.out, hr, .inr ⟨.inl HRS.out, rfl, rfl, HOV.out⟩⟩, rfl, hto⟩
    · by_cases h1 : st = 1
      · subst h1
        go_wp2_with (first
          | (go_at_call 45; go_loud (refine (leaves_calls S1 g K e r 5 _ HL2.out.l.at_ HI.out HSY.out hr).mono ?_); rintro en w3 ⟨rfl, hto⟩; have HL3 := Aside0.mk (HL2.out.step hto); clear hto)
          | (go_at_call 43; go_loud (refine (over_calls _ bm g K (leavesSt e r 5) _ HL3.out.l.at_ (leavesSt_inv HI.out HSY.out r 5).1 (leavesSt_inv HI.out HSY.out r 5).2 HL3.out.g).mono ?_); rintro en w4 hpost; obtain ⟨rfl, e4, ho, hto⟩ := hpost; have HOV := Aside0.mk ho; have HL4 := Aside0.mk (HL3.out.step hto); obtain ⟨d0, d1, d2, d3, d4, fb⟩ := reply_cells (HL3.out.step hto).b; clear ho hto))
        obtain ⟨w5, hw5⟩ : ∃ w5, w5 = ((((w4.setCell ⟨B + 1, 0, none⟩ (.int .i64 0)).setCell ⟨B + 1, 1, none⟩ (.int .i64 5)).setCell ⟨B + 1, 2, none⟩ (.int .i64 0)).setCell ⟨B + 1, 3, none⟩ (.int .i64 0)).setCell ⟨B + 1, 4, none⟩ (.int .i64 0) := ⟨_, rfl⟩
        rw [← hw5]
        obtain ⟨⟨y0, y1, y2, y3, y4⟩, hto⟩ := HL4.out.done _ _ _ _ _ hw5
        refine bodyPost_ret (v := .tuple #[.agg #[.int .i64 0, .int .i64 5, .int .i64 0, .int .i64 0, .int .i64 0], .int .i64 0]) (by simp [results, Tryz.results19, go_sem, y0, y1, y2, y3, y4]) rfl ?_
        exact ⟨0, 5, 0, 0, 0, 0, _, .inr ⟨r, HOA.out, hr, .inr ⟨.inr HRS.out, rfl, rfl, HOV.out⟩⟩, rfl, hto⟩
      · have r0 : (st != 0) = true := by rw [bne_iff_ne]; exact h0
        have r1 : (st != 1) = true := by rw [bne_iff_ne]; exact h1
        have HE := Aside0.mk (And.intro h0 h1)
        clear h0 h1
        obtain ⟨d0, d1, d2, d3, d4, fb⟩ := reply_cells HL2.out.b
        go_wp2
        obtain ⟨w5, hw5⟩ : ∃ w5, w5 = ((((w2.setCell ⟨B + 1, 0, none⟩ (.int .i64 0)).setCell ⟨B + 1, 1, none⟩ (.int .i64 0)).setCell ⟨B + 1, 2, none⟩ (.int .i64 0)).setCell ⟨B + 1, 3, none⟩ (.int .i64 0)).setCell ⟨B + 1, 4, none⟩ (.int .i64 0) := ⟨_, rfl⟩
        rw [← hw5]
        obtain ⟨⟨y0, y1, y2, y3, y4⟩, hto⟩ := HL2.out.done _ _ _ _ _ hw5
        refine bodyPost_ret (v := .tuple #[.agg #[.int .i64 0, .int .i64 0, .int .i64 0, .int .i64 0, .int .i64 0], .int .i64 8]) (by simp [results, Tryz.results19, go_sem, y0, y1, y2, y3, y4]) rfl ?_
        exact ⟨0, 0, 0, 0, 0, 8, _, .inr ⟨r, HOA.out, hr, .inl ⟨by rw [HRS.out]; exact HE.out.1, by rw [HRS.out]; exact HE.out.2, rfl, rfl, rfl⟩⟩, rfl, hto⟩
  · have HNI := Aside0.mk hin
    clear hin
    go_wp2_with (go_at_call 44; go_loud (refine (asked_no S1 g K e oa _ HL0.out.l.at_ HNI.out hnrb).mono ?_); rintro en w2 ⟨rfl, hd⟩; have HL2 := Aside0.mk (HL0.out.below hd.below); obtain ⟨d0, d1, d2, d3, d4, fb⟩ := reply_cells (HL0.out.below hd.below).b; clear hd)
    obtain ⟨w3, hw3⟩ : ∃ w3, w3 = ((((w2.setCell ⟨B + 1, 0, none⟩ (.int .i64 0)).setCell ⟨B + 1, 1, none⟩ (.int .i64 0)).setCell ⟨B + 1, 2, none⟩ (.int .i64 0)).setCell ⟨B + 1, 3, none⟩ (.int .i64 0)).setCell ⟨B + 1, 4, none⟩ (.int .i64 0) := ⟨_, rfl⟩
    rw [← hw3]
    obtain ⟨⟨y0, y1, y2, y3, y4⟩, hto⟩ := HL2.out.done _ _ _ _ _ hw3
    refine bodyPost_ret (v := .tuple #[.agg #[.int .i64 0, .int .i64 0, .int .i64 0, .int .i64 0, .int .i64 0], .int .i64 6]) (by simp [results, Tryz.results19, go_sem, y0, y1, y2, y3, y4]) rfl ?_
    exact ⟨0, 0, 0, 0, 0, 6, _, .inl ⟨by rw [HOA.out]; exact HNI.out, rfl, rfl, rfl⟩, rfl, hto⟩
end Go.Proofs.YtbpoapfkeinjnaaGreatDoor.Ld
