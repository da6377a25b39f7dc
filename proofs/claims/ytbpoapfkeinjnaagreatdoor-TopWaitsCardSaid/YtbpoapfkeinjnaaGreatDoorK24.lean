/- The engine of the yard and what it leans on, part 24. -/
import Derived.Test.YtbpoapfkeinjnaaGreatDoorK23
import Derived.Maps.Own
import Derived.Carry
import Derived.Lib.SliceRun
namespace Go.Proofs.YtbpoapfkeinjnaaGreatDoor.Ld
open Go.RowKit Go.Proofs.YtbpoapfkeinjnaaGreatDoorW.PrintWords Go.Proofs.YtbpoapfkeinjnaaGreatDoorW.PrintLast Go.Proofs.YtbpoapfkeinjnaaGreatDoorW.PrintMore
set_option linter.unusedVariables false
set_option linter.unusedSimpArgs false
set_option linter.unnecessarySimpa false
attribute [local go_sem] max2_int min2_int max_two min_two
def ReqOk (e : Eng) (o : Opr) : Prop := 0 ≤ o.a ∧ o.a < e.N ∧ 1 ≤ o.b ∧ o.b ≤ 100 ∧ 0 ≤ o.c ∧ o.c ≤ 7
def addR (e : Eng) (o : Opr) : Eng := { e with ad := aAddSt e.ad (e.nr : Int), nr := e.nr + 1, rq := upf e.rq e.nr ⟨o.a, o.b, o.c, aAddI e.ad (e.nr : Int)⟩ }
def SubmitR (e : Eng) (o : Opr) (rv : Value) (er : Int) (e' : Eng) : Prop :=
  (¬ ReqOk e o ∧ rv = reply 0 0 0 0 0 ∧ er = 1 ∧ e' = e) ∨
  (ReqOk e o ∧ 64 ≤ e.nr ∧ rv = reply 0 0 0 0 0 ∧ er = 4 ∧ e' = e) ∨
  (ReqOk e o ∧ e.nr < 64 ∧ aAddE e.ad (e.nr : Int) ≠ 0 ∧ rv = reply 0 0 0 0 0 ∧ er = aAddE e.ad (e.nr : Int) ∧ e' = e) ∨
  (ReqOk e o ∧ e.nr < 64 ∧ aAddE e.ad (e.nr : Int) = 0 ∧ rv = reply (e.nr : Int) (e'.rq e.nr).state 0 0 0 ∧ er = 0 ∧
    ((aAddI e.ad (e.nr : Int) = 1 ∧ Over (beginsSt (addR e o) e.nr) e') ∨ (aAddI e.ad (e.nr : Int) = 0 ∧ e' = addR e o)))
theorem info91 : (Tryz.prog.info? 91).map (fun i => (i.zero, i.size, i.bytes)) = some (some (.pointer none), 1, 8) := by kernel_rfl
theorem addR_inv {e : Eng} (h : EngInv e) (o : Opr) (ho : ReqOk e o) (h64 : e.nr < 64) (h0 : aAddE e.ad (e.nr : Int) = 0) : EngInv (addR e o) := by
  rcases add_cases h.ad with ⟨hne, _⟩ | ⟨_, h1, h2, h3, _⟩
  · exact absurd h0 hne
  · exact { h with
      nr := (by show e.nr + 1 ≤ 64; omega)
      ad := h1
      rq := fun i hi => by
        show RqOk e.N (upf e.rq e.nr _ i)
        by_cases hie : i = e.nr
        · subst hie
          rw [upf_same]
          obtain ⟨a1, a2, a3, a4, a5, a6⟩ := ho
          exact ⟨⟨o.a.toNat, by show o.a = _; omega, by omega⟩, ⟨a3, a4⟩, ⟨a5, a6⟩⟩
        · rw [upf_far _ _ _ hie]
          have hi' : i < e.nr + 1 := hi
          exact h.rq i (by omega) }
theorem addR_tu {e : Eng} (h : EngInv e) (hs : Sync e) (o : Opr) : (addR e o).tu.l.length ≤ 64 := hs.len h
theorem addR_sync {e : Eng} (h : EngInv e) (hs : Sync e) (o : Opr) (ho : ReqOk e o) (h0 : aAddE e.ad (e.nr : Int) = 0) :
    (aAddI e.ad (e.nr : Int) = 1 → Sync (beginsSt (addR e o) e.nr)) ∧ (aAddI e.ad (e.nr : Int) = 0 → Sync (addR e o)) ∧ (aAddI e.ad (e.nr : Int) = 1 ∨ aAddI e.ad (e.nr : Int) = 0) := by
  have hsy : e.tu.l.map Mb.id = e.ad.l1 := hs
  have hno : (e.nr : Int) ∉ e.tu.l.map Mb.id := fun hm => by
    rw [hsy] at hm
    obtain ⟨r, h1, h2⟩ := h.ad.lt _ (List.mem_append_left _ hm)
    omega
  rcases add_cases h.ad with ⟨hne, _⟩ | ⟨_, h1, h2, h3, ⟨h4, h5, h6⟩ | ⟨h4, h5, h6⟩⟩
  · exact absurd h0 hne
  · refine ⟨fun _ => ?_, fun hc => by omega, .inl h4⟩
    show (joinSt e.tu (e.nr : Int) ((addR e o).rq e.nr).weight).l.map Mb.id = (aAddSt e.ad (e.nr : Int)).l1
    have hw : ((addR e o).rq e.nr).weight = o.b := by show (upf e.rq e.nr _ e.nr).weight = _; rw [upf_same]
    rw [hw, joinSt_ok ⟨ho.2.2.1, ho.2.2.2.1⟩ hno, h5]
    show (e.tu.l ++ [_]).map Mb.id = _
    rw [List.map_append, hsy]
    rfl
  · exact ⟨fun hc => by omega, fun _ => hsy.trans h5.symm, .inr h4⟩
set_option maxHeartbeats 8000000 in
set_option maxRecDepth 100000 in
theorem submit_calls (S : Nat → Prop) (bm g : Nat) (K : EK) (e : Eng) (o : Opr) (w : World) (H : EngAt S w g K e) (hi : EngInv e) (hs : Sync e) (hg : Glb bm S w) :
    Calls Tryz.prog 18 #[.pointer (some ⟨g, 0, none⟩), .agg #[.int .i64 o.k, .int .i64 o.a, .int .i64 o.b, .int .i64 o.c, .int .i64 o.d]] w fun en w' => ∃ a b c d f er e', SubmitR e o (reply a b c d f) er e' ∧ en = .returned (.tuple #[.agg #[.int .i64 a, .int .i64 b, .int .i64 c, .int .i64 d, .int .i64 f], .int .i64 er]) ∧ ∃ K', To S w g K' e' w' := by
  have HI := Aside0.mk hi
  have HSY := Aside0.mk hs
  obtain ⟨w0, hw0⟩ : ∃ w0, w0 = (w.alloc (opO o)).alloc rep0 := ⟨_, rfl⟩
  have HW0 := Aside0.mk (show w0 = (w.alloc (.cells #[.int .i64 o.k, .int .i64 o.a, .int .i64 o.b, .int .i64 o.c, .int .i64 o.d] 39)).alloc (.cells #[.int .i64 0, .int .i64 0, .int .i64 0, .int .i64 0, .int .i64 0] 34) from hw0)
  have HL0 := Aside0.mk (show LD bm S w g K e (fun k => S k ∧ k < w.heap.size) w0 w.heap.size o from hw0 ▸ LD.start H hg o)
  have hNb := hi.N
  have hnrb := hi.nr
  clear H hi hs hg hw0
  go_enter Tryz.func18, Tryz.ntmps18
  go_upto_region 1 with (fail)
  rw [← HW0.out]
  obtain ⟨B, hB⟩ : ∃ B, w.heap.size = B := ⟨_, rfl⟩
  rw [hB] at HL0 ⊢
  obtain ⟨S1, hS1⟩ : ∃ S1 : Nat → Prop, (fun k => S k ∧ k < B) = S1 := ⟨_, rfl⟩
  rw [hS1] at HL0
  clear hS1 hB
  obtain ⟨_, k1, k2, k3, _⟩ := HL0.out.cells
  obtain ⟨oa, hoa⟩ : ∃ oa, o.a = oa := ⟨_, rfl⟩
  obtain ⟨ob, hob⟩ : ∃ ob, o.b = ob := ⟨_, rfl⟩
  obtain ⟨oc, hoc⟩ : ∃ oc, o.c = oc := ⟨_, rfl⟩
  have HO := Aside0.mk (And.intro hoa (And.intro hob hoc))
  rw [hoa] at k1
  rw [hob] at k2
  rw [hoc] at k3
  clear hoa hob hoc
  obtain ⟨AQ, cq, c12⟩ := HL0.out.l.at_.fnr
  have HN0 := Aside0.mk (heap_alloc_new w0 (.cells #[.int .i64 oa, .int .i64 ob, .int .i64 oc] 88))
  have HB0 := Aside0.mk (below_alloc (Below.refl _ w0) (.cells #[.int .i64 oa, .int .i64 ob, .int .i64 oc] 88))
  have c12' := pw_cell_below HB0.out c12
  go_upto_region 2 with (fail)
  obtain ⟨w1, hw1⟩ : ∃ w1, w1 = w0.alloc (.cells #[.int .i64 oa, .int .i64 ob, .int .i64 oc] 88) := ⟨_, rfl⟩
  rw [← hw1] at HN0 HB0 c12' ⊢
  have HL1 := Aside0.mk (HL0.out.below HB0.out)
  have HS1 := Aside0.mk (show ∀ k, S1 k → k < w0.heap.size from HL0.out.l.lt)
  obtain ⟨B6, hB6⟩ : ∃ B6, w0.heap.size = B6 := ⟨_, rfl⟩
  rw [hB6] at HN0 HS1 ⊢
  have HNB := Aside0.mk (show ¬ S1 B6 from fun h => by have := HS1.out _ h; omega)
  have e0 := (blk_cell HN0.out 0).trans (show _ = some (Value.int .i64 oa) from rfl)
  have e1 := (blk_cell HN0.out 1).trans (show _ = some (Value.int .i64 ob) from rfl)
  have e2 := (blk_cell HN0.out 2).trans (show _ = some (Value.int .i64 oc) from rfl)
  clear hw1 c12 k1 k2 k3 hB6
  obtain ⟨nr, hnr⟩ : ∃ nr, e.nr = nr := ⟨_, rfl⟩
  have HNR := Aside0.mk hnr
  rw [hnr] at c12' hnrb
  clear hnr
  by_cases ha : 0 ≤ oa ∧ oa < e.N
  · have HDD := Aside0.mk (show decide (0 ≤ oa ∧ oa < e.N) = true from decide_eq_true ha)
    have HA := Aside0.mk ha
    by_cases hb1 : ob < 1
    · have p1 : (ob < 1) = True := eq_true hb1
      have HX := Aside0.mk hb1
      clear hb1 ha
      go_wp2_with (go_at_call 29; go_loud (refine (there29 S1 g K e oa _ HL1.out.l.at_ hNb.2).mono ?_); rintro en w2 ⟨rfl, hd⟩; rw [HDD.out]; have HL2 := Aside0.mk (HL1.out.below hd.below); have e1 := pw_cell_below hd.below e1; have e2 := pw_cell_below hd.below e2; obtain ⟨d0, d1, d2, d3, d4, fb⟩ := reply_cells (HL1.out.below hd.below).b; clear hd)
      obtain ⟨w3, hw3⟩ : ∃ w3, w3 = ((((w2.setCell ⟨B + 1, 0, none⟩ (.int .i64 0)).setCell ⟨B + 1, 1, none⟩ (.int .i64 0)).setCell ⟨B + 1, 2, none⟩ (.int .i64 0)).setCell ⟨B + 1, 3, none⟩ (.int .i64 0)).setCell ⟨B + 1, 4, none⟩ (.int .i64 0) := ⟨_, rfl⟩
      rw [← hw3]
      obtain ⟨⟨y0, y1, y2, y3, y4⟩, hto⟩ := HL2.out.done _ _ _ _ _ hw3
      refine bodyPost_ret (v := .tuple #[.agg #[.int .i64 0, .int .i64 0, .int .i64 0, .int .i64 0, .int .i64 0], .int .i64 1]) (by simp [results, Tryz.results18, go_sem, y0, y1, y2, y3, y4]) rfl ?_
      exact ⟨0, 0, 0, 0, 0, 1, _, .inl ⟨fun h => by have h1 := h.2.2.1; rw [HO.out.2.1] at h1; have := HX.out; omega, rfl, rfl, rfl⟩, rfl, K, hto⟩
    · have p1 : (ob < 1) = False := eq_false hb1
      by_cases hb2 : 100 < ob
      · have p2 : (100 < ob) = True := eq_true hb2
        have HX := Aside0.mk hb2
        clear hb1 hb2 ha
        go_wp2_with (go_at_call 29; go_loud (refine (there29 S1 g K e oa _ HL1.out.l.at_ hNb.2).mono ?_); rintro en w2 ⟨rfl, hd⟩; rw [HDD.out]; have HL2 := Aside0.mk (HL1.out.below hd.below); have e1 := pw_cell_below hd.below e1; have e2 := pw_cell_below hd.below e2; obtain ⟨d0, d1, d2, d3, d4, fb⟩ := reply_cells (HL1.out.below hd.below).b; clear hd)
        obtain ⟨w3, hw3⟩ : ∃ w3, w3 = ((((w2.setCell ⟨B + 1, 0, none⟩ (.int .i64 0)).setCell ⟨B + 1, 1, none⟩ (.int .i64 0)).setCell ⟨B + 1, 2, none⟩ (.int .i64 0)).setCell ⟨B + 1, 3, none⟩ (.int .i64 0)).setCell ⟨B + 1, 4, none⟩ (.int .i64 0) := ⟨_, rfl⟩
        rw [← hw3]
        obtain ⟨⟨y0, y1, y2, y3, y4⟩, hto⟩ := HL2.out.done _ _ _ _ _ hw3
        refine bodyPost_ret (v := .tuple #[.agg #[.int .i64 0, .int .i64 0, .int .i64 0, .int .i64 0, .int .i64 0], .int .i64 1]) (by simp [results, Tryz.results18, go_sem, y0, y1, y2, y3, y4]) rfl ?_
        exact ⟨0, 0, 0, 0, 0, 1, _, .inl ⟨fun h => by have h1 := h.2.2.2.1; rw [HO.out.2.1] at h1; have := HX.out; omega, rfl, rfl, rfl⟩, rfl, K, hto⟩
      · have p2 : (100 < ob) = False := eq_false hb2
        by_cases hc1 : oc < 0
        · have p3 : (oc < 0) = True := eq_true hc1
          have HX := Aside0.mk hc1
          clear hb1 hb2 hc1 ha
          go_wp2_with (go_at_call 29; go_loud (refine (there29 S1 g K e oa _ HL1.out.l.at_ hNb.2).mono ?_); rintro en w2 ⟨rfl, hd⟩; rw [HDD.out]; have HL2 := Aside0.mk (HL1.out.below hd.below); have e1 := pw_cell_below hd.below e1; have e2 := pw_cell_below hd.below e2; obtain ⟨d0, d1, d2, d3, d4, fb⟩ := reply_cells (HL1.out.below hd.below).b; clear hd)
          obtain ⟨w3, hw3⟩ : ∃ w3, w3 = ((((w2.setCell ⟨B + 1, 0, none⟩ (.int .i64 0)).setCell ⟨B + 1, 1, none⟩ (.int .i64 0)).setCell ⟨B + 1, 2, none⟩ (.int .i64 0)).setCell ⟨B + 1, 3, none⟩ (.int .i64 0)).setCell ⟨B + 1, 4, none⟩ (.int .i64 0) := ⟨_, rfl⟩
          rw [← hw3]
          obtain ⟨⟨y0, y1, y2, y3, y4⟩, hto⟩ := HL2.out.done _ _ _ _ _ hw3
          refine bodyPost_ret (v := .tuple #[.agg #[.int .i64 0, .int .i64 0, .int .i64 0, .int .i64 0, .int .i64 0], .int .i64 1]) (by simp [results, Tryz.results18, go_sem, y0, y1, y2, y3, y4]) rfl ?_
          exact ⟨0, 0, 0, 0, 0, 1, _, .inl ⟨fun h => by have h1 := h.2.2.2.2.1; rw [HO.out.2.2] at h1; have := HX.out; omega, rfl, rfl, rfl⟩, rfl, K, hto⟩
        · have p3 : (oc < 0) = False := eq_false hc1
          by_cases hc2 : 7 < oc
          · have p4 : (7 < oc) = True := eq_true hc2
            have HX := Aside0.mk hc2
            clear hb1 hb2 hc1 hc2 ha
            go_wp2_with (go_at_call 29; go_loud (refine (there29 S1 g K e oa _ HL1.out.l.at_ hNb.2).mono ?_); rintro en w2 ⟨rfl, hd⟩; rw [HDD.out]; have HL2 := Aside0.mk (HL1.out.below hd.below); have e1 := pw_cell_below hd.below e1; have e2 := pw_cell_below hd.below e2; obtain ⟨d0, d1, d2, d3, d4, fb⟩ := reply_cells (HL1.out.below hd.below).b; clear hd)
            obtain ⟨w3, hw3⟩ : ∃ w3, w3 = ((((w2.setCell ⟨B + 1, 0, none⟩ (.int .i64 0)).setCell ⟨B + 1, 1, none⟩ (.int .i64 0)).setCell ⟨B + 1, 2, none⟩ (.int .i64 0)).setCell ⟨B + 1, 3, none⟩ (.int .i64 0)).setCell ⟨B + 1, 4, none⟩ (.int .i64 0) := ⟨_, rfl⟩
            rw [← hw3]
            obtain ⟨⟨y0, y1, y2, y3, y4⟩, hto⟩ := HL2.out.done _ _ _ _ _ hw3
            refine bodyPost_ret (v := .tuple #[.agg #[.int .i64 0, .int .i64 0, .int .i64 0, .int .i64 0, .int .i64 0], .int .i64 1]) (by simp [results, Tryz.results18, go_sem, y0, y1, y2, y3, y4]) rfl ?_
            exact ⟨0, 0, 0, 0, 0, 1, _, .inl ⟨fun h => by have h1 := h.2.2.2.2.2; rw [HO.out.2.2] at h1; have := HX.out; omega, rfl, rfl, rfl⟩, rfl, K, hto⟩
          · have p4 : (7 < oc) = False := eq_false hc2
            have HOK := Aside0.mk (show ReqOk e o from ⟨by rw [HO.out.1]; exact ha.1, by rw [HO.out.1]; exact ha.2, by rw [HO.out.2.1]; omega, by rw [HO.out.2.1]; omega, by rw [HO.out.2.2]; omega, by rw [HO.out.2.2]; omega⟩)
            obtain ⟨t, rfl⟩ := Int.eq_ofNat_of_zero_le ha.1
            have ht : t < e.N := by omega
            clear hb1 hb2 hc1 hc2 ha
            go_upto_region 5 with (go_at_call 29; go_loud (refine (there29 S1 g K e (t : Int) _ HL1.out.l.at_ hNb.2).mono ?_); rintro en w2 ⟨rfl, hd⟩; rw [HDD.out]; have HL2 := Aside0.mk (HL1.out.below hd.below); have HN2 := Aside0.mk (blk_below HN0.out hd.below); have e1 := pw_cell_below hd.below e1; have e2 := pw_cell_below hd.below e2; clear hd)
            clear e0 e1 e2 p1 p2 p3 p4 c12'
            obtain ⟨A7, c7, hva, c10, htds⟩ := HL2.out.l.at_.tds
            obtain ⟨td, rfl, t0, _⟩ := htds.at_ t ht
            obtain ⟨b0, _⟩ := HL2.out.l.at_.fc
            obtain ⟨mm, hmm⟩ : ∃ mm, e.mem t = mm := ⟨_, rfl⟩
            obtain ⟨bu, hbu⟩ : ∃ bu, e.c.budget = bu := ⟨_, rfl⟩
            have hfit := HI.out.fits ht
            have hle := HI.out.led.pos
            have hbb := HI.out.ledb
            rw [hmm] at t0 hfit
            rw [hbu] at b0 hbb
            have q0 : decide (bu < mm) = false := decide_eq_false (by omega)
            have q1 : (0 ≤ (t : Int)) = True := eq_true (by omega)
            have q2 : ((t : Int) < (e.N : Int)) = True := eq_true (by omega)
            have e0' := (blk_cell HN2.out 0).trans (show _ = some (Value.int .i64 (t : Int)) from rfl)
            clear hva htds hmm hbu hfit hle hbb
            go_quiet ((fail))
            have HL3 := Aside0.mk (HL2.out.below (pw_below_drewN (Below.refl _ w2) nq))
            have HN3 := Aside0.mk (blk_below HN2.out (pw_below_drewN (Below.refl _ w2) nq))
            obtain ⟨w3, hw3⟩ : ∃ w3, w3 = w2.drewN nq := ⟨_, rfl⟩
            rw [← hw3] at HL3 HN3 ⊢
            clear hw3 q0 e0' c10 t0 b0
            by_cases h64 : 64 ≤ nr
            · have p5 : ((64 : Int) ≤ (nr : Int)) = True := eq_true (by omega)
              have HX := Aside0.mk h64
              clear h64
              obtain ⟨d0, d1, d2, d3, d4, fb⟩ := reply_cells HL3.out.b
              go_wp2
              obtain ⟨w4, hw4⟩ : ∃ w4, w4 = ((((w3.setCell ⟨B + 1, 0, none⟩ (.int .i64 0)).setCell ⟨B + 1, 1, none⟩ (.int .i64 0)).setCell ⟨B + 1, 2, none⟩ (.int .i64 0)).setCell ⟨B + 1, 3, none⟩ (.int .i64 0)).setCell ⟨B + 1, 4, none⟩ (.int .i64 0) := ⟨_, rfl⟩
              rw [← hw4]
              obtain ⟨⟨y0, y1, y2, y3, y4⟩, hto⟩ := HL3.out.done _ _ _ _ _ hw4
              refine bodyPost_ret (v := .tuple #[.agg #[.int .i64 0, .int .i64 0, .int .i64 0, .int .i64 0, .int .i64 0], .int .i64 4]) (by simp [results, Tryz.results18, go_sem, y0, y1, y2, y3, y4]) rfl ?_
              exact ⟨0, 0, 0, 0, 0, 4, _, .inr (.inl ⟨HOK.out, by rw [HNR.out]; exact HX.out, rfl, rfl, rfl⟩), rfl, K, hto⟩
            · have p5 : ((64 : Int) ≤ (nr : Int)) = False := eq_false (by omega)
              have HX := Aside0.mk (show nr < 64 by omega)
              clear h64
              obtain ⟨c16, S3, had, hlt3, hback⟩ := HL3.out.l.at_.ad
              have HAD := Aside0.mk had
              have HBACK := Aside0.mk hback
              have HAOK := Aside0.mk (show AdmOk e.ad from by have := HI.out.ad.len; have := HI.out.nr; exact ⟨by omega, by omega⟩)
              obtain ⟨qi, hqi⟩ : ∃ qi, aAddI e.ad (nr : Int) = qi := ⟨_, rfl⟩
              obtain ⟨qe, hqe⟩ : ∃ qe, aAddE e.ad (nr : Int) = qe := ⟨_, rfl⟩
              have HQI := Aside0.mk hqi
              have HQE := Aside0.mk hqe
              clear had hlt3 hback hqi hqe
              go_upto_region 10 with (go_at_call 41; go_loud (refine (AAdd_calls (nr : Int) _ HAD.out HAOK.out).mono ?_); rintro en w4 ⟨rfl, h3, k3⟩; rw [HQI.out, HQE.out]; have hto := HBACK.out _ _ h3 k3; have HW4 := Aside0.mk (HL3.out.l.own hto (blk_lt HN3.out) HNB.out); have HL4 := Aside0.mk (HL3.out.step hto); clear h3 k3 hto)
              have HN4 := Aside0.mk (HW4.out.2.trans HN3.out)
              by_cases hq0 : qe = 0
              · have r0 : (qe != 0) = false := by rw [hq0]; rfl
                subst hq0
                go_upto_region 12 with (fail)
                refine wp_region_any (by kernel_rfl) ?_
                obtain ⟨w5, hw5⟩ : ∃ w5 : World, w5 = { w4 with drawn := w4.drawn + 1 } := ⟨_, rfl⟩
                rw [← hw5]
                have hb5 : Below w4.heap.size w4 w5 := hw5 ▸ pw_below_drewN (Below.refl _ w4) 1
                have HL5 := Aside0.mk (HL4.out.below hb5)
                have HN5 := Aside0.mk (blk_below HN4.out hb5)
                have d0 := (blk_cell HN5.out 0).trans (show _ = some (Value.int .i64 (t : Int)) from rfl)
                have d1 := (blk_cell HN5.out 1).trans (show _ = some (Value.int .i64 ob) from rfl)
                have d2 := (blk_cell HN5.out 2).trans (show _ = some (Value.int .i64 oc) from rfl)
                obtain ⟨S5, AP, cp, cs, c12, hrow, hblk, hcs, hback⟩ := HL5.out.l.at_.reqp
                have hn5 : ({ e with ad := aAddSt e.ad (nr : Int) } : Eng).nr = nr := HNR.out
                rw [hn5] at c12 hrow hcs hback
                have HROW := Aside0.mk hrow
                have HBLK := Aside0.mk hblk
                have HCS := Aside0.mk hcs
                have HBACK := Aside0.mk hback
                obtain ⟨CL, hCL⟩ : ∃ CL : List (Addr × Value), CL = [(⟨g, 12, none⟩, .slice AP nr cp), (⟨B6, 0, none⟩, .int .i64 (t : Int)), (⟨B6, 1, none⟩, .int .i64 ob), (⟨B6, 2, none⟩, .int .i64 oc)] := ⟨_, rfl⟩
                have m1 : ∀ x : CW CL, x.w.cell? ⟨g, 12, none⟩ = some (.slice AP nr cp) := fun x => x.h.get 0 (by rw [hCL]; rfl)
                have m2 : ∀ x : CW CL, x.w.cell? ⟨B6, 0, none⟩ = some (.int .i64 (t : Int)) := fun x => x.h.get 1 (by rw [hCL]; rfl)
                have m3 : ∀ x : CW CL, x.w.cell? ⟨B6, 1, none⟩ = some (.int .i64 ob) := fun x => x.h.get 2 (by rw [hCL]; rfl)
                have m4 : ∀ x : CW CL, x.w.cell? ⟨B6, 2, none⟩ = some (.int .i64 oc) := fun x => x.h.get 3 (by rw [hCL]; rfl)
                have HS := Aside0.mk (show Cells CL w5 from hCL ▸ Cells.cons c12 (Cells.cons d0 (Cells.cons d1 (Cells.cons d2 (Cells.nil _)))))
                have hne : Nonempty (CW CL) := ⟨⟨_, HS.out⟩⟩
                clear hCL hw5 hb5 d0 d1 d2 c12 hrow hblk hcs hback hn5
                refine wpAny_take (i := 0) (v := .pointer (some ⟨g, 0, none⟩)) rfl (by kernel_rfl) (by kernel_rfl) (by kernel_rfl) (fun _ _ _ h => h) (Or.inl ⟨rfl, fun w => rfl⟩) ?_
                refine Qt.wpAny_of_T (S := fun w' => ∃ x : CW CL, w' = x.w) (n := 10) _ _ _ _ ?_
                refine Qt.wpAnyT_batchL 6 (fun l => (l.drop 1).take 7) ((List.range 7).map (· + 1)) rfl (fun _ _ d _ _ h => by cases d <;> exact h) ⟨CW.mk _ HS.out, rfl⟩ rfl (by kernel_rfl) (Qt.held_start (by kernel_rfl)) (by kernel_rfl) ?_
                simp only [List.take_succ_cons, List.take_zero, List.drop_succ_cons, List.drop_zero, List.cons_append, List.nil_append, Act.put, List.getElem_toArray, List.getElem_cons_succ, List.getElem_cons_zero, List.setIfInBounds_toArray, List.set_cons_succ, List.set_cons_zero]
                repeat (go_big_quiet_step ((fail)))
                refine wpQuiet_nil ?_
                refine Qt.wpAnyT_one (i := 8) (by kernel_rfl) rfl ?_
                go_wp2
                obtain ⟨w6, hw6⟩ : ∃ w6, w6 = w5.alloc (.cells #[.int .i64 (t : Int), .int .i64 ob, .int .i64 oc, .int .i64 qi] 93) := ⟨_, rfl⟩
                rw [← hw6]
                have HB6 := Aside0.mk (show Below w5.heap.size w5 w6 from hw6 ▸ below_alloc (Below.refl _ w5) _)
                have HX6 := Aside0.mk (show w6.heap[w5.heap.size]? = some (.cells #[.int .i64 (t : Int), .int .i64 ob, .int .i64 oc, .int .i64 qi] 93 (0, 0)) from hw6 ▸ heap_alloc_new w5 _)
                clear hw6
                first | refine ⟨⟨CW.mk _ (HS.out.below HB6.out), rfl⟩, ?_⟩ | refine ⟨fun _ => ⟨CW.mk _ (HS.out.below HB6.out), rfl⟩, ?_⟩
                refine Qt.wpAnyT_one (i := 9) (by kernel_rfl) rfl ?_
                go_wp2
                first | refine ⟨⟨CW.mk _ (HS.out.below (below_alloc HB6.out _)), rfl⟩, ?_⟩ | refine ⟨fun _ => ⟨CW.mk _ (HS.out.below (below_alloc HB6.out _)), rfl⟩, ?_⟩
                refine Qt.wpAnyT_tailL rfl (by kernel_rfl) ?_
                simp only [List.take_succ_cons, List.take_zero, List.drop_succ_cons, List.drop_zero, List.cons_append, List.nil_append]
                clear m1 m2 m3 m4 hne
                go_upto_region 13 with (at_builtin; go_loud (refine wp_push_n (S := S5) (w := w5) (wb := w6) rfl (.tmp 87) (.tmp 92) 65 91 (.pointer none) 1 8 rfl Tryz.underlying65 info91 rfl (by decide) (by decide) (.slice AP nr cp) nr (slRow nr fun i => ptrV (K.rp i)) [ptrV w5.heap.size] g 12 cs 72 rfl rfl rfl ?a0 ?a1 ?a2 ?a3 (by decide) ?a4 ?_); (case a0 => simp [ptrV, Value.oneCell']); (case a1 => exact HROW.out); (case a2 => exact HB6.out); (case a3 => exact HBLK.out); (case a4 => omega); (intro A6 c6 w7 hpre; have d6 := (blk_cell hpre.pre.blk 12).trans HCS.out; have f6 := blk_frozen hpre.pre.blk 12; have HF := Aside0.mk hpre; clear hpre))
                obtain ⟨w8, hw8⟩ : ∃ w8, w8 = w7.setCell ⟨g, 12, none⟩ (.slice A6 (nr + 1) c6) := ⟨_, rfl⟩
                rw [← hw8]
                have hto := HBACK.out ⟨(t : Int), ob, oc, qi⟩ w6 w8 (.slice A6 (nr + 1) c6) w5.heap.size HB6.out (Nat.le_refl _) HX6.out (hw8 ▸ HF.out.pre.post)
                have heq : ({ ({ e with ad := aAddSt e.ad (nr : Int) } : Eng) with nr := nr + 1, rq := upf e.rq nr ⟨(t : Int), ob, oc, qi⟩ } : Eng) = addR e o := by unfold addR; rw [HNR.out, HO.out.1, HO.out.2.1, HO.out.2.2, HQI.out]
                have HL8 := Aside0.mk (show LD bm S w g _ (addR e o) _ w8 B o from by have h := HL5.out.step hto; rw [heq] at h; exact h)
                have HQ0 := Aside0.mk (show aAddE e.ad (e.nr : Int) = 0 from by rw [HNR.out]; exact HQE.out)
                have HNI := Aside0.mk (addR_inv HI.out o HOK.out (by rw [HNR.out]; exact HX.out) HQ0.out)
                have hsync := addR_sync HI.out HSY.out o HOK.out HQ0.out
                have HNS := Aside0.mk (And.intro hsync.1 hsync.2.1)
                have hqc := hsync.2.2
                rw [HNR.out, HQI.out] at hqc
                clear hto heq hw8 hsync d6 f6
                rcases hqc with h1 | h1
                · subst h1
                  have HQ1 := Aside0.mk (show aAddI e.ad (e.nr : Int) = 1 from by rw [HNR.out]; exact HQI.out)
                  go_upto_region 16 with (first
                    | (go_at_call 42; go_loud (refine (begins_calls _ g _ (addR e o) nr _ HL8.out.l.at_ HNI.out (show nr < e.nr + 1 by rw [HNR.out]; omega) (addR_tu HI.out HSY.out o)).mono ?_); rintro en w9 ⟨rfl, hto⟩; have HL9 := Aside0.mk (HL8.out.step hto); clear hto)
                    | (go_at_call 43; go_loud (refine (over_calls _ bm g _ (beginsSt (addR e o) nr) _ HL9.out.l.at_ (beginsSt_inv HNI.out (show nr < e.nr + 1 by rw [HNR.out]; omega) (addR_tu HI.out HSY.out o)) (by rw [← HNR.out]; exact HNS.out.1 HQ1.out) HL9.out.g).mono ?_); rintro en w10 hpost; obtain ⟨rfl, e9, ho, hto⟩ := hpost; have HOV := Aside0.mk ho; have HL10 := Aside0.mk (HL9.out.step hto); clear ho hto))
                  have hnr9 : (e9).nr = nr + 1 := by rw [HOV.out.sm.nr]; show e.nr + 1 = _; rw [HNR.out]
                  obtain ⟨AW, cw, f12, fr, fb9, _⟩ := HL10.out.l.at_.freq nr (by rw [hnr9]; omega)
                  rw [hnr9] at f12
                  have f3 := (blk_cell fb9 3).trans (show _ = some (Value.int .i64 ((e9).rq nr).state) from rfl)
                  obtain ⟨st, hst⟩ : ∃ st, ((e9).rq nr).state = st := ⟨_, rfl⟩
                  rw [hst] at f3
                  have HST := Aside0.mk hst
                  have z1 : (0 ≤ (nr : Int)) = True := eq_true (by omega)
                  have z2 : ((nr : Int) < ((nr + 1 : Nat) : Int)) = True := eq_true (by omega)
                  obtain ⟨d0, d1, d2, d3, d4, fb⟩ := reply_cells HL10.out.b
                  clear fb9 hst hnr9
                  go_wp2
                  obtain ⟨w11, hw11⟩ : ∃ w11, w11 = ((((w10.setCell ⟨B + 1, 0, none⟩ (.int .i64 (nr : Int))).setCell ⟨B + 1, 1, none⟩ (.int .i64 st)).setCell ⟨B + 1, 2, none⟩ (.int .i64 0)).setCell ⟨B + 1, 3, none⟩ (.int .i64 0)).setCell ⟨B + 1, 4, none⟩ (.int .i64 0) := ⟨_, rfl⟩
                  rw [← hw11]
                  obtain ⟨⟨y0, y1, y2, y3, y4⟩, hto⟩ := HL10.out.done _ _ _ _ _ hw11
                  refine bodyPost_ret (v := .tuple #[.agg #[.int .i64 (nr : Int), .int .i64 st, .int .i64 0, .int .i64 0, .int .i64 0], .int .i64 0]) (by simp [results, Tryz.results18, go_sem, y0, y1, y2, y3, y4]) rfl ?_
                  exact ⟨(nr : Int), st, 0, 0, 0, 0, _, .inr (.inr (.inr ⟨HOK.out, by rw [HNR.out]; exact HX.out, HQ0.out, by rw [HNR.out, HST.out], rfl, .inl ⟨HQ1.out, by rw [HNR.out]; exact HOV.out⟩⟩)), rfl, _, hto⟩
                · subst h1
                  have HQ1 := Aside0.mk (show aAddI e.ad (e.nr : Int) = 0 from by rw [HNR.out]; exact HQI.out)
                  have hnr9 : (addR e o).nr = nr + 1 := by show e.nr + 1 = _; rw [HNR.out]
                  obtain ⟨AW, cw, f12, fr, fb9, _⟩ := HL8.out.l.at_.freq nr (by rw [hnr9]; omega)
                  rw [hnr9] at f12
                  have f3 := (blk_cell fb9 3).trans (show _ = some (Value.int .i64 ((addR e o).rq nr).state) from rfl)
                  obtain ⟨st, hst⟩ : ∃ st, ((addR e o).rq nr).state = st := ⟨_, rfl⟩
                  rw [hst] at f3
                  have HST := Aside0.mk hst
                  have z1 : (0 ≤ (nr : Int)) = True := eq_true (by omega)
                  have z2 : ((nr : Int) < ((nr + 1 : Nat) : Int)) = True := eq_true (by omega)
                  obtain ⟨d0, d1, d2, d3, d4, fb⟩ := reply_cells HL8.out.b
                  clear fb9 hst hnr9
                  go_wp2
                  obtain ⟨w11, hw11⟩ : ∃ w11, w11 = ((((w8.setCell ⟨B + 1, 0, none⟩ (.int .i64 (nr : Int))).setCell ⟨B + 1, 1, none⟩ (.int .i64 st)).setCell ⟨B + 1, 2, none⟩ (.int .i64 0)).setCell ⟨B + 1, 3, none⟩ (.int .i64 0)).setCell ⟨B + 1, 4, none⟩ (.int .i64 0) := ⟨_, rfl⟩
                  rw [← hw11]
                  obtain ⟨⟨y0, y1, y2, y3, y4⟩, hto⟩ := HL8.out.done _ _ _ _ _ hw11
                  refine bodyPost_ret (v := .tuple #[.agg #[.int .i64 (nr : Int), .int .i64 st, .int .i64 0, .int .i64 0, .int .i64 0], .int .i64 0]) (by simp [results, Tryz.results18, go_sem, y0, y1, y2, y3, y4]) rfl ?_
                  exact ⟨(nr : Int), st, 0, 0, 0, 0, _, .inr (.inr (.inr ⟨HOK.out, by rw [HNR.out]; exact HX.out, HQ0.out, by rw [HNR.out, HST.out], rfl, .inr ⟨HQ1.out, rfl⟩⟩)), rfl, _, hto⟩
              · have r0 : (qe != 0) = true := by rw [bne_iff_ne]; exact hq0
                have HX2 := Aside0.mk hq0
                have hsame : aAddSt e.ad (nr : Int) = e.ad := by
                  have h := add_cases HI.out.ad
                  rw [HNR.out] at h
                  rcases h with ⟨_, h⟩ | ⟨h, _⟩
                  · exact h
                  · exact absurd (HQE.out.symm.trans h) hq0
                have HL5 := Aside0.mk (show LD bm S w g K e _ w4 B o from by have h := HL4.out; rw [hsame] at h; exact h)
                clear hq0 hsame
                obtain ⟨d0, d1, d2, d3, d4, fb⟩ := reply_cells HL5.out.b
                go_wp2
                obtain ⟨w5, hw5⟩ : ∃ w5, w5 = ((((w4.setCell ⟨B + 1, 0, none⟩ (.int .i64 0)).setCell ⟨B + 1, 1, none⟩ (.int .i64 0)).setCell ⟨B + 1, 2, none⟩ (.int .i64 0)).setCell ⟨B + 1, 3, none⟩ (.int .i64 0)).setCell ⟨B + 1, 4, none⟩ (.int .i64 0) := ⟨_, rfl⟩
                rw [← hw5]
                obtain ⟨⟨y0, y1, y2, y3, y4⟩, hto⟩ := HL5.out.done _ _ _ _ _ hw5
                refine bodyPost_ret (v := .tuple #[.agg #[.int .i64 0, .int .i64 0, .int .i64 0, .int .i64 0, .int .i64 0], .int .i64 qe]) (by simp [results, Tryz.results18, go_sem, y0, y1, y2, y3, y4]) rfl ?_
                exact ⟨0, 0, 0, 0, 0, qe, _, .inr (.inr (.inl ⟨HOK.out, by rw [HNR.out]; exact HX.out, by rw [HNR.out, HQE.out]; exact HX2.out, rfl, by rw [HNR.out, HQE.out], rfl⟩)), rfl, K, hto⟩
  · have HDD := Aside0.mk (show decide (0 ≤ oa ∧ oa < e.N) = false from decide_eq_false ha)
    have HX := Aside0.mk ha
    clear ha
    go_wp2_with (go_at_call 29; go_loud (refine (there29 S1 g K e oa _ HL1.out.l.at_ hNb.2).mono ?_); rintro en w2 ⟨rfl, hd⟩; rw [HDD.out]; have HL2 := Aside0.mk (HL1.out.below hd.below); have e1 := pw_cell_below hd.below e1; have e2 := pw_cell_below hd.below e2; obtain ⟨d0, d1, d2, d3, d4, fb⟩ := reply_cells (HL1.out.below hd.below).b; clear hd)
    obtain ⟨w3, hw3⟩ : ∃ w3, w3 = ((((w2.setCell ⟨B + 1, 0, none⟩ (.int .i64 0)).setCell ⟨B + 1, 1, none⟩ (.int .i64 0)).setCell ⟨B + 1, 2, none⟩ (.int .i64 0)).setCell ⟨B + 1, 3, none⟩ (.int .i64 0)).setCell ⟨B + 1, 4, none⟩ (.int .i64 0) := ⟨_, rfl⟩
    rw [← hw3]
    obtain ⟨⟨y0, y1, y2, y3, y4⟩, hto⟩ := HL2.out.done _ _ _ _ _ hw3
    refine bodyPost_ret (v := .tuple #[.agg #[.int .i64 0, .int .i64 0, .int .i64 0, .int .i64 0, .int .i64 0], .int .i64 1]) (by simp [results, Tryz.results18, go_sem, y0, y1, y2, y3, y4]) rfl ?_
    exact ⟨0, 0, 0, 0, 0, 1, _, .inl ⟨fun h => HX.out ⟨by have h1 := h.1; rw [HO.out.1] at h1; exact h1, by have h1 := h.2.1; rw [HO.out.1] at h1; exact h1⟩, rfl, rfl, rfl⟩, rfl, K, hto⟩
end Go.Proofs.YtbpoapfkeinjnaaGreatDoor.Ld
namespace Go.Proofs.YtbpoapfkeinjnaaGreatDoor.Ld
open Go.RowKit Go.Proofs.YtbpoapfkeinjnaaGreatDoorW.PrintWords Go.Proofs.YtbpoapfkeinjnaaGreatDoorW.PrintLast Go.Proofs.YtbpoapfkeinjnaaGreatDoorW.PrintMore
open Go.Maps (Keyed)
set_option linter.unusedVariables false
set_option linter.unusedSimpArgs false
set_option linter.unnecessarySimpa false
theorem u57 : Tryz.prog.underlying 57 = some (.map 3 37) := by kernel_rfl
theorem wp_insert_own {H : Type} {P : Program} (w : World) {ops : Array Oper} {rest : List Oper} {o : Oper} {a : Act} {Q : Exit → Act → World → Prop}
    (hg : o.guard = none) (m x v : Operand) (t : TypeId) (hop : o.op = Op.insert t m x v)
    (k e : TypeId) (K : Keyed P k) (ht : P.underlying t = some (.map k e)) (R : Value → Option (DataW H × List MemPlace)) (b n : Nat) (D : DataW H)
    (hm : a.eval m = .map (some b)) (hown : w.ownsMap P k R b n D) (hn : n < maxLen) (key val : Value) (kl : Lit) (hx : a.eval x = key) (hv : a.eval v = val) (hkey : keyOf P k key = some kl)
    (d : DataW H) (ps : List MemPlace) (hval : R val = some (d, ps))
    (hK : ∀ w', w'.ownsMap P k R b (n + 1) (D.put kl d) → w.grownBy w' (some b) → wpList P ops Q rest (a.put o.dst undef) w') :
    wpList P ops Q (o :: rest) a w := by
  refine wpList_plain hg fun K' hK' => ?_
  obtain ⟨w', hrun, r1, r2⟩ := hown.update K ht hn hkey hval
  unfold Oper.wp
  simp [execOp, hop, hm, hx, hv, hrun, Result.andThen]
  exact hK' _ _ (hK w' r1 r2)
def mth (g n : Nat) : Value := .func (.func n) #[.pointer (some ⟨g, 0, none⟩)] #[]
def L (n : Nat) : DataW Unit := .lit (.int .i64 (n : Int))
noncomputable def Rm (g : Nat) (v : Value) : Option (DataW Unit × List MemPlace) :=
  open Classical in
  if v = mth g 18 then some (L 18, []) else if v = mth g 19 then some (L 19, []) else if v = mth g 20 then some (L 20, []) else
  if v = mth g 21 then some (L 21, []) else if v = mth g 22 then some (L 22, []) else if v = mth g 23 then some (L 23, []) else if v = .nilFunc then some (L 0, []) else none
theorem mth_ne (g : Nat) {a b : Nat} (h : a ≠ b) : mth g a ≠ mth g b := fun e => by
  unfold mth at e
  injection e with e1
  injection e1 with e1
  exact h e1
theorem Rm_mth (g n : Nat) (h : 18 ≤ n ∧ n ≤ 23) : Rm g (mth g n) = some (L n, []) := by
  unfold Rm
  rcases (show n = 18 ∨ n = 19 ∨ n = 20 ∨ n = 21 ∨ n = 22 ∨ n = 23 by omega) with rfl | rfl | rfl | rfl | rfl | rfl
  all_goals repeat (first | rw [if_pos rfl] | rw [if_neg (mth_ne g (by decide))])
theorem Rm_nil (g : Nat) : Rm g .nilFunc = some (L 0, []) := by
  have h : ∀ n, Value.nilFunc ≠ mth g n := fun n e => by unfold mth at e; cases e
  unfold Rm
  rw [if_neg (h _), if_neg (h _), if_neg (h _), if_neg (h _), if_neg (h _), if_neg (h _), if_pos rfl]
theorem Rm_inv {g n : Nat} {v : Value} {ps : List MemPlace} (h : Rm g v = some (L n, ps)) : (n = 0 ∧ v = .nilFunc) ∨ (v = mth g n ∧ 18 ≤ n) := by
  unfold Rm at h
  have key : ∀ k : Nat, (L k : DataW Unit) = L n → k = n := fun k e => by unfold L at e; injection e with e; injection e with _ e; omega
  repeat' split at h
  all_goals first | (cases h; done) | skip
  all_goals
    injection h with h
    injection h with h1 h2
    have := key _ h1
    subst this
    first | exact .inl ⟨rfl, by assumption⟩ | exact .inr ⟨by assumption, by decide⟩
theorem info37 : (Tryz.prog.info? 37).map (fun i => (i.zero, i.size, i.bytes)) = some (some .nilFunc, 1, 8) := by kernel_rfl
theorem z37 (w : World) : (zeroValue 37).run Tryz.prog w = .ok .nilFunc w := by
  obtain ⟨i, hi, hz0, _, _⟩ := info_parts info37
  simp [zeroValue, typeInfo, hi, hz0]
theorem u37b : ((Tryz.prog.underlying 37).map fun t => match t with | .func .. => true | _ => false) = some true := by kernel_rfl
theorem eqIn (w : World) (d : Nat) (f : Fn) (a b : Array Value) : (Op.equalIn (d + 1) 37 (.func f a b) .nilFunc).run Tryz.prog w = .ok false w ∧ (Op.equalIn (d + 1) 37 .nilFunc .nilFunc).run Tryz.prog w = .ok true w := by
  obtain ⟨t, ht, h2⟩ := Option.map_eq_some_iff.1 u37b
  cases t <;> simp at h2
  constructor <;> simp [Op.equalIn, run_underlying ht]
theorem eq37a (w : World) (f : Fn) (a b : Array Value) : (binOp .eql 37 (.func f a b) .nilFunc).run Tryz.prog w = .ok (.bool false) w := by
  simp only [binOp]
  simp [Op.equal, Op.maxDepth, (eqIn w 9999 f a b).1]
theorem eq37b (w : World) : (binOp .eql 37 .nilFunc .nilFunc).run Tryz.prog w = .ok (.bool true) w := by
  simp only [binOp]
  simp [Op.equal, Op.maxDepth, (eqIn w 9999 (.func 0) #[] #[]).2]
def D6 : DataW Unit := .map [(.int .i64 1, L 18), (.int .i64 2, L 19), (.int .i64 3, L 20), (.int .i64 4, L 21), (.int .i64 5, L 22), (.int .i64 6, L 23)]
theorem D6_eq : ((((((DataW.map []).put (.int .i64 1) (L 18)).put (.int .i64 2) (L 19)).put (.int .i64 3) (L 20)).put (.int .i64 4) (L 21)).put (.int .i64 5) (L 22)).put (.int .i64 6) (L 23) = D6 := by rfl
def mN (k : Int) : Nat := if k = 1 then 18 else if k = 2 then 19 else if k = 3 then 20 else if k = 4 then 21 else if k = 5 then 22 else if k = 6 then 23 else 0
theorem D6_at (k : Int) : D6.atKey (.int .i64 k) (L 0) = L (mN k) := by
  unfold D6 mN
  by_cases h1 : k = 1
  · subst h1; rfl
  by_cases h2 : k = 2
  · subst h2; rfl
  by_cases h3 : k = 3
  · subst h3; rfl
  by_cases h4 : k = 4
  · subst h4; rfl
  by_cases h5 : k = 5
  · subst h5; rfl
  by_cases h6 : k = 6
  · subst h6; rfl
  rw [if_neg h1, if_neg h2, if_neg h3, if_neg h4, if_neg h5, if_neg h6]
  simp [DataW.atKey, Lit.sameKey, Ne.symm h1, Ne.symm h2, Ne.symm h3, Ne.symm h4, Ne.symm h5, Ne.symm h6]
end Go.Proofs.YtbpoapfkeinjnaaGreatDoor.Ld
