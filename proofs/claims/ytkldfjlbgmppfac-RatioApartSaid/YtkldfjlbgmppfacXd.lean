/- The walk of the law RatioApart: it answers true at whatever list of pairs. No condition but that the list reads. -/
import Derived.Test.YtkldfjlbgmppfacXc
namespace Go.Proofs.Ytkldfjlbgmppfac.Fl
open Go.RowKit Go.Proofs.YtkldfjlbgmppfacW.PrintWords Go.Proofs.YtkldfjlbgmppfacW.PrintLast Go.Proofs.YtkldfjlbgmppfacW.PrintMore
set_option linter.unusedVariables false
set_option linter.unusedSimpArgs false
attribute [local go_sem] max2_int min2_int max_two min_two unary_neg_float
theorem mem_at {xs : List (Int × Int)} {p : Int × Int} (h : p ∈ xs) : ∃ i : Nat, i < xs.length ∧ rdc xs (i : Int) = p := by
  obtain ⟨i, hi, rfl⟩ := List.getElem_of_mem h
  exact ⟨i, hi, by simp [rdc, rdOf, List.getD_eq_getElem?_getD, List.getElem?_eq_getElem hi]⟩
theorem two_bools {a b : Bool} (h : ¬ (a = true ∧ b = true)) : a = false ∨ (a = true ∧ b = false) := by
  cases a <;> cases b <;> simp at h ⊢
theorem sg_pos {a b : Int} (h : ¬ sg a b ≤ 0) : sg a b = 1 := by
  rcases Int.lt_trichotomy a b with c | c | c
  · rw [sg_lt c] at h; omega
  · rw [sg_eq c] at h; omega
  · exact sg_gt c
theorem info25 : (Try.prog.info? 25).map (fun i => (i.zero, i.size, i.bytes)) = some (some (.complex .f64 0 0), 1, 16) := by kernel_rfl
set_option maxHeartbeats 8000000 in
set_option maxRecDepth 100000 in
theorem RatioApart_calls (A : Option Addr) (l : List S30) (c : Nat) (w : World) (hl : Kd.C k30 w A l.length l) :
    Calls Try.prog 3 #[.slice A l.length c] w fun e w' => e = .returned (.bool true) ∧ Below w.heap.size w w' := by
  go_enter Try.func3, Try.ntmps3
  go_upto_block 0 with (go_at_call 5; (with_reducible refine (shown_calls _).mono ?_); rintro e w1 ⟨rfl, hb1⟩)
  go_cut [3, 4] (fun v3 v4 wc => v3 = .bool true ∧ Aside0 (∃ i, i ≤ l.length ∧ i ≤ 30 ∧ wc.ownsRow w.heap.size 25 1 v4 i (encs cxv (shs l i)) ∧ Below w.heap.size w wc))
  case first =>
    go_wp2_with fail
    go_loopg [4, 5] 31 (fun kq v4 v5 wr => ∃ i : Nat, v5 = .int .i64 (i : Int) ∧ Aside0 (kq + i = 31 ∧ i ≤ l.length ∧ i ≤ 30 ∧ wr.ownsRow w.heap.size 25 1 v4 i (encs cxv (shs l i)) ∧ Below w.heap.size w wr))
    case atStart => exact ⟨0, rfl, ⟨by omega, by omega, by omega, own_nil _ _ _ _, hb1⟩⟩
    case round =>
      obtain ⟨i, rfl, hA⟩ := hrel
      obtain ⟨hk, hi1, hi2, hown, hbw⟩ := hA.out
      by_cases hlt : i < l.length ∧ i < 30
      · obtain ⟨hlt1, hlt2⟩ := hlt
        have b1 : decide ((i : Int) < (l.length : Int)) = true := by simp; omega
        have b2 : decide ((i : Int) < (30 : Int)) = true := by simp; omega
        have hlr := Kd.C_below hl hbw
        obtain ⟨ad, rfl, c0, c1⟩ := at_pair hlr (i : Int) (by omega) (by omega)
        simp only [Int.toNat_natCast] at c0 c1
        have p1 : (0 ≤ (i : Int)) = True := eq_true (by omega)
        have q1 : ((i : Int) < (l.length : Int)) = True := eq_true (by omega)
        have hlen : (encs cxv (shs l i)).length = i := by simp [encs]; exact shs_length l i hi1
        have hown2 : wr.ownsRow w.heap.size 25 1 u4 (encs cxv (shs l i)).length (encs cxv (shs l i)) := by rw [hlen]; exact hown
        have HO := Aside0.mk hown2
        have HL := Aside0.mk hlen
        have HB := Aside0.mk hbw
        have HS := Aside0.mk (shs_succ l i hlt1)
        generalize hz : rdp l (i : Int) = z at c0 c1
        have HZ := Aside0.mk hz
        clear hz hA hlr hown hown2 hlen hbw hl hb1
        go_wp2_with (first
          | (go_at_call 6; (with_reducible refine (share_calls _ _ _).mono ?_); rintro e w2 ⟨rfl, hb2⟩; have HB2 := Aside0.mk hb2; clear hb2)
          | (at_builtin; go_loud (refine print_append (w0 := w) w.heap.size rfl (.tmp 32) (.tmp 34) 24 25 (.complex .f64 0 0) 16 rfl Try.underlying24 info25 rfl (by decide) u4 (encs cxv (shs l i)) (.complex .f64 (W (cut1 z.f0)) (W (cut z.f1))) rfl ?ax rfl ?a1 ?a2 ?a3 ?a4 ?_; (case ax => (refine (?_ : Value.slice (some ⟨w2.heap.size + 1, 0, none⟩) 1 1 = _); simp)); (case a1 => exact (pw_own_below HO.out HB2.out).alloc _); (case a2 => exact below_alloc (below_step HB.out HB2.out) _); (case a3 => exact below_size (below_alloc (below_step HB.out HB2.out) _)); (case a4 => rw [HL.out]; omega); (intro v6 w6 ho hbl hgr hat))))
  
        go_roundg (gk - 1)
        case measure => omega
        case rel =>
          refine ⟨i + 1, rfl, ⟨by omega, by omega, by omega, ?_, hbl⟩⟩
          have e : shs l (i + 1) = shs l i ++ [(cut1 z.f0, cut z.f1)] := by rw [HS.out, HZ.out]; rfl
          rw [e, encs_snoc]
          have e2 : (encs cxv (shs l i) ++ [Value.complex .f64 (W (cut1 z.f0)) (W (cut z.f1))]).length = i + 1 := by rw [List.length_append, HL.out]; rfl
          rw [e2] at ho
          exact ho
      · have hd : ¬ i < l.length ∨ (i < l.length ∧ (30 : Int) ≤ (i : Int)) := by omega
        have HX := Aside0.mk (show ∃ i, i ≤ l.length ∧ i ≤ 30 ∧ wr.ownsRow w.heap.size 25 1 u4 i (encs cxv (shs l i)) ∧ Below w.heap.size w wr from ⟨i, hi1, hi2, hown, hbw⟩)
        clear hA hown hbw hlt
        rcases hd with b1 | ⟨b1, b2⟩
        · go_wp2_with fail
          go_meet
          exact ⟨rfl, HX⟩
        · have n2 : ¬ (i : Int) < 30 := by omega
          go_wp2_with fail
          go_meet
          exact ⟨rfl, HX⟩
  case rest =>
    obtain ⟨rfl, hA⟩ := hcut
    obtain ⟨n, hn1, hn2, hown, hbw⟩ := hA.out
    obtain ⟨A2, c2, rfl, hr⟩ := own_reads_of (d := (0, 0)) hown
    have hln := shs_length l n hn1
    have hoks := shs_ok l n
    clear hown hA
    generalize shs l n = xs at hr hln hoks
    subst hln
    have HB := Aside0.mk hbw
    have HO := Aside0.mk hoks
    clear hbw hoks hb1 hl
    by_cases h0 : xs.length = 0
    · obtain rfl : xs = [] := List.eq_nil_of_length_eq_zero h0
      clear h0
      go_wp2_with (go_at_call 7; (with_reducible refine (Apart0_calls _ _ _).mono ?_); rintro e w2 ⟨rfl, ⟨n1, rfl⟩⟩)
      go_ret
      exact ⟨rfl, pw_below_drewN HB.out _⟩
    by_cases h1 : xs.length = 1
    · have hsame : ∀ re im, ApartIs xs re im → Go.FloatKind.f64.format.order re 0 = some .eq ∧ Go.FloatKind.f64.format.order im 0 = some .eq := by
        rintro re im ⟨p, q, hp, hq, hs, _, _⟩
        obtain ⟨y, rfl⟩ := List.length_eq_one_iff.1 h1
        obtain rfl := List.mem_singleton.1 hp
        obtain rfl := List.mem_singleton.1 hq
        have o1 := HO.out _ hp
        obtain ⟨x, e1, i1⟩ := is_sub (W_is q.1 (by have := o1.1; omega)) (W_is q.1 (by have := o1.1; omega)) (by omega)
        obtain ⟨y, e2, i2⟩ := is_sub (W_is q.2 (by have := o1.2; omega)) (W_is q.2 (by have := o1.2; omega)) (by omega)
        simp only [cSumBits, e1, e2, Option.bind_some, Option.some.injEq, Prod.mk.injEq] at hs
        obtain ⟨rfl, rfl⟩ := hs
        rw [Int.sub_self] at i1 i2
        exact ⟨order_eq i1 is_zero, order_eq i2 is_zero⟩
      have HS := Aside0.mk hsame
      have H1 := Aside0.mk h1
      clear hsame
      have n1 : ¬ 1 < xs.length := by omega
      have n2 : (xs.length : Int) ≤ 1 := by omega
      have n3 : decide ((xs.length : Int) ≤ 1) = true := by simp; omega
      have h1p : 0 < xs.length := by omega
      clear h1 h0
      go_wp2_with (go_at_call 7; (with_reducible refine (Apart_calls A2 c2 xs _ ?hr ?h1 ?h2 ?h3).mono ?_); (case hr => exact hr); (case h1 => omega); (case h2 => omega); (case h3 => exact HO.out); rintro e w2 ⟨re, im, rfl, hx, ⟨n1, rfl⟩⟩; obtain ⟨o1, o2⟩ := HS.out re im hx; have HX := Aside0.mk hx; clear hx)
      go_ret
      exact ⟨rfl, pw_below_drewN HB.out _⟩
    go_upto_block 2 with (go_at_call 7; (with_reducible refine (Apart_calls A2 c2 xs _ ?hr ?h1 ?h2 ?h3).mono ?_); (case hr => exact hr); (case h1 => omega); (case h2 => omega); (case h3 => exact HO.out); rintro e w2 ⟨re, im, rfl, hx, ⟨n1, rfl⟩⟩; have HX := Aside0.mk hx; clear hx)
    obtain ⟨p, q, hp, hq, hs, hpa, hqa⟩ := HX.out
    obtain ⟨ip, hip, ep⟩ := mem_at hp
    obtain ⟨iq, hiq, eq⟩ := mem_at hq
    have HW := Aside0.mk (show re = re from rfl)
    have HXX := Aside0.mk (And.intro ep eq)
    have HPA := Aside0.mk hpa
    have HQA := Aside0.mk hqa
    have HSS := Aside0.mk hs
    clear hpa hqa hs ep eq
    go_wp2_with fail
    go_loopg [9] 31 (fun kq v9 wr => (∃ i : Nat, v9 = .int .i64 (i : Int) ∧ Aside0 (kq + i = 31 ∧ i ≤ ip)) ∧ Drawn0 wc wr)
    case atStart => exact ⟨⟨0, rfl, ⟨by omega, by omega⟩⟩, by repeat (first | exact Drawn0.refl _ | apply Drawn0.step)⟩
    case round =>
      obtain ⟨⟨i, rfl, hA⟩, ⟨m1, rfl⟩⟩ := hrel
      obtain ⟨hk, hi⟩ := hA.out
      have hlt : i < xs.length := by omega
      obtain ⟨gi, hgi⟩ : ∃ g, g = gk := ⟨_, rfl⟩
      go_wp2_with fail
      go_loopg [10] 31 (fun kq v10 wr => (∃ k : Nat, v10 = .int .i64 (k : Int) ∧ Aside0 (kq + k = 31 ∧ k ≤ xs.length ∧ (i = ip → k ≤ iq))) ∧ Drawn0 wc wr)
      case atStart => exact ⟨⟨0, rfl, ⟨by omega, by omega, by omega⟩⟩, by repeat (first | exact Drawn0.refl _ | apply Drawn0.step)⟩
      case round =>
        obtain ⟨⟨k, rfl, hB⟩, ⟨m2, rfl⟩⟩ := hrel
        obtain ⟨hk2, hkl, hkq⟩ := hB.out
        by_cases hlt2 : k < xs.length
        · obtain ⟨ad, e2, ci⟩ := at_cx hr (i : Int) (by omega) (by omega)
          obtain rfl := e2
          obtain ⟨ad2, e2, ck⟩ := at_cx hr (k : Int) (by omega) (by omega)
          cases e2
          have oi := HO.out _ (rdc_mem (xs := xs) (i := (i : Int)) (by omega) (by omega))
          have ok := HO.out _ (rdc_mem (xs := xs) (i := (k : Int)) (by omega) (by omega))
          simp only [Int.toNat_natCast] at ci ck
          obtain ⟨re2, e1, i1⟩ := is_sub (W_is (rdc xs (i : Int)).1 (by have := oi.1; omega)) (W_is (rdc xs (k : Int)).1 (by have := ok.1; omega)) (by have := oi.1; have := ok.1; omega)
          obtain ⟨im2, e2, i2⟩ := is_sub (W_is (rdc xs (i : Int)).2 (by have := oi.2; omega)) (W_is (rdc xs (k : Int)).2 (by have := ok.2; omega)) (by have := oi.2; have := ok.2; omega)
          have hs2 : cSumBits .sub .f64 (W (rdc xs (i : Int)).1) (W (rdc xs (i : Int)).2) (W (rdc xs (k : Int)).1) (W (rdc xs (k : Int)).2) = some (re2, im2) := by simp only [cSumBits, e1, e2, Option.bind_some]
          have hD : i = ip ∧ k = iq → (Go.FloatKind.f64.format.order re2 re == some .eq) = true ∧ (Go.FloatKind.f64.format.order im2 im == some .eq) = true := by
            rintro ⟨rfl, rfl⟩
            obtain ⟨rfl, rfl⟩ := HXX.out
            have := HSS.out
            rw [hs2] at this
            simp only [Option.some.injEq, Prod.mk.injEq] at this
            obtain ⟨rfl, rfl⟩ := this
            rw [order_eq i1 i1, order_eq i2 i2]; exact ⟨rfl, rfl⟩
          have hsub := fun w => run_complex_sum (P := Try.prog) w .sub (.inr rfl) 25 .f64 _ _ _ _ re2 im2 hs2
          have HD := Aside0.mk hD
          have HI := Aside0.mk (And.intro oi ok)
          clear hD e1 e2 hs2 i1 i2 oi ok
          generalize hri : rdc xs (i : Int) = ri at *
          generalize hrk : rdc xs (k : Int) = rk at *
          have HRI := Aside0.mk hri
          have HRK := Aside0.mk hrk
          clear hri hrk
          have p1 : (0 ≤ (i : Int)) = True := eq_true (by omega)
          have p2 : ((i : Int) < (xs.length : Int)) = True := eq_true (by omega)
          have p3 : (0 ≤ (k : Int)) = True := eq_true (by omega)
          have p4 : ((k : Int) < (xs.length : Int)) = True := eq_true (by omega)
          by_cases hne : (Go.FloatKind.f64.format.order re2 re == some .eq) = true ∧ (Go.FloatKind.f64.format.order im2 im == some .eq) = true
          · obtain ⟨f1, f2⟩ := hne
            simp only [beq_iff_eq] at f1 f2
            go_wp2_with fail
            go_quiet (fail)
            clear hsub f1 f2
            obtain ⟨gj, hgj⟩ : ∃ g, g = gk := ⟨_, rfl⟩
            have HG := Aside0.mk hgj
            clear hgj
            go_wp2_with fail
            go_loopg [11, 12] 31 (fun kq v11 v12 wr => (∃ (j : Nat) (b : Bool), v11 = .bool b ∧ v12 = .int .i64 (j : Int) ∧ Aside0 (kq + j = 31 ∧ j ≤ xs.length ∧ (i = ip ∧ k = iq → b = true))) ∧ Drawn0 wc wr)
            case atStart => exact ⟨⟨0, true, rfl, rfl, ⟨by omega, by omega, fun _ => rfl⟩⟩, by repeat (first | exact Drawn0.refl _ | apply Drawn0.step)⟩
            case round =>
              obtain ⟨⟨j, b, rfl, rfl, hC⟩, ⟨m3, rfl⟩⟩ := hrel
              obtain ⟨hk3, hjl, hjb⟩ := hC.out
              have HJB := Aside0.mk hjb
              clear hjb hC
              by_cases hlt3 : j < xs.length
              · obtain ⟨ad2, e2, cj⟩ := at_cx hr (j : Int) (by omega) (by omega)
                cases e2
                have oj := HO.out _ (rdc_mem (xs := xs) (i := (j : Int)) (by omega) (by omega))
                simp only [Int.toNat_natCast] at cj
                have hj1 : i = ip → notAbove (rdc xs (j : Int)) ri := by
                  rintro rfl
                  rw [← HRI.out, HXX.out.1]; exact HPA.out _ (by omega) (by omega)
                have hj2 : k = iq → notAbove rk (rdc xs (j : Int)) := by
                  rintro rfl
                  rw [← HRK.out, HXX.out.2]; exact HQA.out _ (by omega) (by omega)
                generalize rdc xs (j : Int) = rj at cj oj hj1 hj2
                have HJ1 := Aside0.mk hj1
                have HJ2 := Aside0.mk hj2
                clear hj1 hj2
                obtain ⟨oi, ok⟩ := HI.out
                have p5 : (0 ≤ (j : Int)) = True := eq_true (by omega)
                have p6 : ((j : Int) < (xs.length : Int)) = True := eq_true (by omega)
                cases b with
                | false =>
                  go_wp2_with fail
                  go_quiet (fail)
                  clear p1 p2 p3 p4 p5 p6 ci ck cj
                  go_wp2_with fail
                  go_roundg (gk - 1)
                  case measure => omega
                  case rel => exact ⟨⟨j + 1, false, rfl, rfl, ⟨by omega, by omega, HJB.out⟩⟩, by repeat (first | exact Drawn0.refl _ | apply Drawn0.step)⟩
                | true =>
                  have hin : (i = ip ∧ k = iq) → sg (rj.2 * ri.1) (ri.2 * rj.1) ≤ 0 ∧ sg (rk.2 * rj.1) (rj.2 * rk.1) ≤ 0 := fun hh => ⟨sg_le.2 (HJ1.out hh.1), sg_le.2 (HJ2.out hh.2)⟩
                  have HIN := Aside0.mk hin
                  clear hin
                  by_cases d1 : sg (rj.2 * ri.1) (ri.2 * rj.1) ≤ 0
                  · by_cases d2 : sg (rk.2 * rj.1) (rj.2 * rk.1) ≤ 0
                    · have e1 : decide (sg (rj.2 * ri.1) (ri.2 * rj.1) ≤ 0) = true := by simpa using d1
                      have e2 : decide (sg (rk.2 * rj.1) (rj.2 * rk.1) ≤ 0) = true := by simpa using d2
                      go_wp2_with fail
                      go_region_held3 (fun w' => w'.cell? (ad.add i) = some (.complex .f64 (W ri.1) (W ri.2)) ∧ w'.cell? (ad.add k) = some (.complex .f64 (W rk.1) (W rk.2)) ∧ w'.cell? (ad.add j) = some (.complex .f64 (W rj.1) (W rj.2))) (go_keep) ((go_at_call 8; (with_reducible refine (CompareW_calls _ _ _ _ _ ?h1 ?h2 ?h3 ?h4).mono ?_); (case h1 => first | (have := oj.1; omega) | (have := ok.1; omega)); (case h2 => first | (have := oj.2; omega) | (have := ok.2; omega)); (case h3 => first | (have := oi.1; omega) | (have := oj.1; omega)); (case h4 => first | (have := oi.2; omega) | (have := oj.2; omega)); rintro e w5 ⟨rfl, ⟨n5, rfl⟩⟩))
                      all_goals
                        clear p1 p2 p3 p4 p5 p6 ci ck cj
                        go_wp2_with fail
                        go_roundg (gk - 1)
                        case measure => omega
                        case rel => exact ⟨⟨j + 1, true, rfl, rfl, ⟨by omega, by omega, fun _ => rfl⟩⟩, by repeat (first | exact Drawn0.refl _ | apply Drawn0.step)⟩
                    · have e1 : decide (sg (rj.2 * ri.1) (ri.2 * rj.1) ≤ 0) = true := by simpa using d1
                      have e2 : decide (sg (rk.2 * rj.1) (rj.2 * rk.1) ≤ 0) = false := by simpa using d2
                      go_wp2_with fail
                      go_region_held3 (fun w' => w'.cell? (ad.add i) = some (.complex .f64 (W ri.1) (W ri.2)) ∧ w'.cell? (ad.add k) = some (.complex .f64 (W rk.1) (W rk.2)) ∧ w'.cell? (ad.add j) = some (.complex .f64 (W rj.1) (W rj.2))) (go_keep) ((go_at_call 8; (with_reducible refine (CompareW_calls _ _ _ _ _ ?h1 ?h2 ?h3 ?h4).mono ?_); (case h1 => first | (have := oj.1; omega) | (have := ok.1; omega)); (case h2 => first | (have := oj.2; omega) | (have := ok.2; omega)); (case h3 => first | (have := oi.1; omega) | (have := oj.1; omega)); (case h4 => first | (have := oi.2; omega) | (have := oj.2; omega)); rintro e w5 ⟨rfl, ⟨n5, rfl⟩⟩))
                      all_goals
                        clear p1 p2 p3 p4 p5 p6 ci ck cj
                        go_wp2_with fail
                        go_roundg (gk - 1)
                        case measure => omega
                        case rel => exact ⟨⟨j + 1, false, rfl, rfl, ⟨by omega, by omega, fun hh => absurd (HIN.out hh).2 (by omega)⟩⟩, by repeat (first | exact Drawn0.refl _ | apply Drawn0.step)⟩
                  · have s1 : sg (rj.2 * ri.1) (ri.2 * rj.1) = 1 := sg_pos d1
                    have HD1 := Aside0.mk d1
                    have KQ : ∀ w, Calls Try.prog 8 #[.complex .f64 (W rj.1) (W rj.2), .complex .f64 (W ri.1) (W ri.2)] w fun e w' => e = .returned (.int .i64 1) ∧ ∃ m, w' = w.drewN m := by
                      intro w
                      rw [← s1]
                      exact (CompareW_calls _ _ _ _ _ (by have := oj.1; omega) (by have := oj.2; omega) (by have := oi.1; omega) (by have := oi.2; omega)).mono fun e w' ⟨h1, h2⟩ => ⟨h1, h2.out⟩
                    have KQA := Aside0.mk KQ
                    clear d1 s1 KQ
                    go_wp2_with fail
                    have ci3 : (wc.drewN m3).cell? (ad.add i) = some (.complex .f64 (W ri.1) (W ri.2)) := ci
                    have cj3 : (wc.drewN m3).cell? (ad.add j) = some (.complex .f64 (W rj.1) (W rj.2)) := cj
                    have hdr : Drawn0 wc (wc.drewN m3) := ⟨⟨_, rfl⟩⟩
                    have HDR := Aside0.mk hdr
                    clear hdr
                    generalize wc.drewN m3 = wq at ci3 cj3 HDR ⊢
                    go_quiet ((go_at_call 8; exact Calls.quiet_of (KQA.out _)))
                    clear p1 p2 p3 p4 p5 p6 ci ck cj ci3 cj3
                    go_wp2_with fail
                    go_roundg (gk - 1)
                    case measure => omega
                    case rel => exact ⟨⟨j + 1, false, rfl, rfl, ⟨by omega, by omega, fun hh => absurd (HIN.out hh).1 (by have := HD1.out; omega)⟩⟩, HDR.out.step _⟩
              · by_cases hb : b = true
                · subst hb
                  go_wp2_with fail
                  go_ret
                  exact ⟨rfl, pw_below_drewN HB.out _⟩
                · have hb2 : b = false := by simpa using hb
                  subst hb2
                  have hno : ¬ (i = ip ∧ k = iq) := fun hh => by have := HJB.out hh; simp at this
                  have HN2 := Aside0.mk hno
                  clear hno hb p1 p2 p3 p4 ci ck
                  go_wp2_with fail
                  go_roundg (gj - 1)
                  case measure => have := HG.out; omega
                  case rel => exact ⟨⟨k + 1, rfl, ⟨by have := HG.out; omega, by omega, by have := HN2.out; omega⟩⟩, by repeat (first | exact Drawn0.refl _ | apply Drawn0.step)⟩
          · have hne2 : ¬ (i = ip ∧ k = iq) := fun hh => hne (HD.out hh)
            have hne3 : (Go.FloatKind.f64.format.order re2 re == some .eq) = false ∨ ((Go.FloatKind.f64.format.order re2 re == some .eq) = true ∧ (Go.FloatKind.f64.format.order im2 im == some .eq) = false) := by
              exact two_bools hne
            clear hne
            have HN2 := Aside0.mk hne2
            clear hne2
            rcases hne3 with f1 | ⟨f1, f2⟩
            all_goals
              go_wp2_with fail
              go_quiet (fail)
              clear p1 p2 p3 p4 hsub ci ck f1
              go_wp2_with fail
              go_roundg (gk - 1)
              case measure => omega
              case rel => exact ⟨⟨k + 1, rfl, ⟨by omega, by omega, by have := HN2.out; omega⟩⟩, by repeat (first | exact Drawn0.refl _ | apply Drawn0.step)⟩
        · go_wp2_with fail
          go_roundg (gi - 1)
          case measure => omega
          case rel => exact ⟨⟨i + 1, rfl, ⟨by omega, by omega⟩⟩, by repeat (first | exact Drawn0.refl _ | apply Drawn0.step)⟩
end Go.Proofs.Ytkldfjlbgmppfac.Fl
