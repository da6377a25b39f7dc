/- The engine of the yard and what it leans on, part 30. -/
import Derived.Test.YtbpoapfkeinjnaaGreatDoorK29
namespace Go.Proofs.YtbpoapfkeinjnaaGreatDoor.Ld
open Go.RowKit Go.Proofs.YtbpoapfkeinjnaaGreatDoorW.PrintWords Go.Proofs.YtbpoapfkeinjnaaGreatDoorW.PrintLast Go.Proofs.YtbpoapfkeinjnaaGreatDoorW.PrintMore
set_option linter.unusedVariables false
set_option linter.unusedSimpArgs false
set_option linter.unnecessarySimpa false
attribute [local go_sem] max2_int min2_int max_two min_two
theorem Tu159 : Tryz.prog.underlying 159 = some (.slice 200) := u159
set_option maxHeartbeats 8000000 in
set_option maxRecDepth 100000 in
theorem Clone140_calls (T : Nat → Prop) (A : Option Addr) (n c : Nat) (xs : List Value) (w : World) (hr : RowAt T w 200 5 (.slice A n c) n xs) (h1 : ∀ u, u ∈ xs → u.oneCell' = true) (hn : n ≤ 1000000) :
    Calls Tryz.prog 140 #[.slice A n c] w fun en w' => ∃ v, en = .returned v ∧ NewR w 200 5 v n xs w' := by
  have HR := Aside0.mk hr
  have H1 := Aside0.mk h1
  have kq := fun (w : World) (A : Option Addr) (n c : Nat) => Lib.run_eql_slice_nil (P := Tryz.prog) w 159 200 A n c 0 0 u159
  clear h1
  cases A with
  | none =>
    obtain rfl : n = 0 := by
      rcases hr.own.2 with ⟨_, h⟩ | ⟨g, cap, cur, h, _⟩
      · exact h
      · cases h
    obtain rfl : xs = [] := List.eq_nil_of_length_eq_zero (by have := hr.own.1; omega)
    clear hr
    go_enter Tryz.func140, Tryz.ntmps140
    go_wp2
    go_ret
    exact ⟨.slice none 0 0, rfl, RowAt.nil _ _ _ _, Below.refl _ w⟩
  | some ad =>
    have HB := Aside0.mk (below_alloc (Below.refl _ w) (.cells #[] 200))
    have HN := Aside0.mk (own_nil_of w 200 5)
    have HL := Aside0.mk (show xs.length = n * 5 from hr.own.1)
    have HC := Aside0.mk (show ∀ j u, xs[j]? = some u → (w.alloc (.cells #[] 200)).cell? (ad.add j) = some u from fun j u hj => by
      rcases HR.out.own.2 with ⟨h, _⟩ | ⟨g, cap, cur, h, _⟩
      · cases h
      · injection h with h _ _
        injection h with h
        subst h
        exact pw_cell_below HB.out (HR.out.own.cells (g := g) rfl j u hj))
    obtain ⟨i0, hi, hz0, hz1, hz2⟩ := info_parts info200
    have HI := Aside0.mk (And.intro hi (And.intro hz0 (And.intro hz1 hz2)))
    clear hr hi hz0 hz1 hz2
    go_enter Tryz.func140, Tryz.ntmps140
    go_wp2_with (at_builtin; go_loud (refine wpList_append_own_at _ rfl (.tmp 5) (.tmp 6) 159 rfl 0 200 i0 (.agg #[.int .i64 0, .int .i64 0, .int .i64 0, .int .i64 0, .int .i64 0]) 5 40 u159 HI.out.1 HI.out.2.1 HI.out.2.2.1 HI.out.2.2.2 rfl (by decide) (.slice (some ⟨w.heap.size, 0, none⟩) 0 0) 0 [] rfl ?a1 ad n c xs rfl ?a2 ?a3 ?a4 ?a5 ?a6 (Nat.zero_le _) ?_); (case a1 => exact HN.out); (case a2 => exact HL.out); (case a3 => exact HC.out); (case a4 => exact H1.out); (case a5 => simp only [maxLen]; omega); (case a6 => omega); (intro v6 w6 ho hgr _ hat; have HO := Aside0.mk ho; have HG := Aside0.mk hgr; have HAT := Aside0.mk hat; clear ho hgr hat))
    go_ret
    have ho := HO.out
    rw [Nat.zero_add, List.nil_append] at ho
    exact ⟨v6, rfl, clone_end ho HG.out HAT.out⟩
set_option maxHeartbeats 8000000 in
set_option maxRecDepth 100000 in
theorem rins_calls (base : Nat) (A : Option Addr) (n c N : Nat) (w : World) (h : RnV base w A n N) (hbw : base ≤ w.heap.size) (hn : n ≤ 12) :
    Calls Tryz.prog 173 #[.slice A n c, .int .i64 0, .int .i64 (n : Int), .func (.func 143) #[] #[]] w fun e w' => e = .returned (.tuple #[]) ∧ RnV base w' A n N ∧ Below base w w' := by
  have HV := Aside0.mk h
  have HBW := Aside0.mk hbw
  clear h hbw
  go_enter Tryz.func173, Tryz.ntmps173
  go_wp2
  go_loopg [8] (n + 1) (fun kq v8 wr => ∃ i : Nat, v8 = .int .i64 (i : Int) ∧ Aside0 (kq + i = n + 2 ∧ 1 ≤ i ∧ i ≤ n + 1 ∧ RnV base wr A n N ∧ Below base w wr))
  case atStart => exact ⟨1, rfl, ⟨by omega, by omega, by omega, HV.out, Below.refl _ _⟩⟩
  case round =>
    obtain ⟨i, rfl, hA⟩ := hrel
    obtain ⟨hkq, hi1, hi, hv, hb⟩ := hA.out
    have HB := Aside0.mk hb
    have HV1 := Aside0.mk hv
    have HKQ := Aside0.mk hkq
    clear hA hb hkq hv
    by_cases hlt : i < n
    · have p1 : ((i : Int) < (n : Int)) = True := eq_true (by omega)
      go_wp2
      obtain ⟨wo, rfl⟩ : ∃ wo : World, wo = wr := ⟨_, rfl⟩
      obtain ⟨ko, rfl⟩ : ∃ ko : Nat, ko = gk := ⟨_, rfl⟩
      go_loopg [9] (i + 1) (fun kq v9 wx => ∃ j : Nat, v9 = .int .i64 (j : Int) ∧ Aside0 (kq = j + 1 ∧ j ≤ i ∧ RnV base wx A n N ∧ Below base w wx))
      case atStart => exact ⟨i, rfl, ⟨by omega, by omega, HV1.out, HB.out⟩⟩
      case round =>
        obtain ⟨j, rfl, hA⟩ := hrel
        obtain ⟨hkj, hj, hv, hb⟩ := hA.out
        have HB2 := Aside0.mk hb
        have HV2 := Aside0.mk hv
        have HKJ := Aside0.mk hkj
        clear hA hb hkj hv
        by_cases hj0 : 0 < j
        · obtain ⟨b, rfl, hBB⟩ := HV2.out (by omega)
          have HBB := Aside0.mk hBB
          obtain ⟨⟨r0, r1, r2, r3, r4⟩, hry, c0, c1, c2, c3, c4⟩ := hBB.at_ j (by omega)
          obtain ⟨⟨s0, s1, s2, s3, s4⟩, hsy, d0, d1, d2, d3, d4⟩ := hBB.at_ (j - 1) (by omega)
          have HRY := Aside0.mk hry
          have HSY := Aside0.mk hsy
          have p2 : (0 < j) = True := eq_true hj0
          have p3 : (0 < (j : Int)) = True := eq_true (by omega)
          have p4 : (0 ≤ (j : Int)) = True := eq_true (by omega)
          have p5 : ((j : Int) < (n : Int)) = True := eq_true (by omega)
          have p6 : (0 ≤ (j : Int) - 1) = True := eq_true (by omega)
          have p7 : ((j : Int) - 1 < (n : Int)) = True := eq_true (by omega)
          clear hBB hry hsy
          go_upto_region 4 with (fail)
          refine Qt.wp_region_quiet_tail 14 (by kernel_rfl) (by kernel_rfl) ?_
          simp only [List.take_succ_cons, List.take_zero, List.drop_succ_cons, List.drop_zero]
          repeat (go_big_quiet_step ((fail)))
          refine wpQuiet_nil ?_
          intro w9 hw9
          have hb9 : Below wr.heap.size wr w9 := by obtain ⟨m, rfl⟩ := hw9; exact pw_below_drewN (Below.refl _ _) m
          have HB9 := Aside0.mk (show RnB base w9 b n N ∧ Below base w w9 from ⟨HBB.out.below hb9, HB2.out.trans (hb9.mono (Nat.le_trans HBW.out HB2.out.size))⟩)
          have HSZ9 := Aside0.mk (show base ≤ w9.heap.size from by have := HBW.out; have := HB2.out.size; have := hb9.size; omega)
          clear hw9 hb9 c0 c1 c2 c3 c4 d0 d1 d2 d3 d4
          go_upto_if 34 with (go_at_call 143; go_loud (refine (compare_calls ⟨r0, r1, r2, r3, r4⟩ ⟨s0, s1, s2, s3, s4⟩ _).mono ?_); rintro e w10 ⟨cc, rfl, h1, h2, h3⟩; have HB10 := Aside0.mk (show RnB base w10 b n N ∧ Below base w w10 from ⟨HB9.out.1.below h3, HB9.out.2.trans (h3.mono HSZ9.out)⟩); clear h1 h2 h3)
          by_cases hneg : cc < 0
          · have b1 : (cc < 0) = True := eq_true hneg
            go_upto_region 6 with (fail)
            refine wp_region_any (by kernel_rfl) ?_
            obtain ⟨w11, hw11⟩ : ∃ w11 : World, w11 = { w10 with drawn := w10.drawn + 1 } := ⟨_, rfl⟩
            rw [← hw11]
            have hb11 : Below w10.heap.size w10 w11 := hw11 ▸ pw_below_drewN (Below.refl _ w10) 1
            have HSZ10 := Aside0.mk (show base ≤ w10.heap.size from by have := HBW.out; have := HB10.out.2.size; omega)
            have HB11 := Aside0.mk (show RnB base w11 b n N ∧ Below base w w11 from ⟨HB10.out.1.below hb11, HB10.out.2.trans (hb11.mono HSZ10.out)⟩)
            clear hw11 hb11
            obtain ⟨⟨r0, r1, r2, r3, r4⟩, hry, c0, c1, c2, c3, c4⟩ := HB11.out.1.at_ j (by omega)
            obtain ⟨⟨s0, s1, s2, s3, s4⟩, hsy, d0, d1, d2, d3, d4⟩ := HB11.out.1.at_ (j - 1) (by omega)
            have f5 := HB11.out.1.fz
            have HRY2 := Aside0.mk hry
            have HSY2 := Aside0.mk hsy
            clear hry hsy
            refine wpAny_take (i := 2) (v := .slice (some ⟨b, 0, none⟩) n c) rfl (by kernel_rfl) (by kernel_rfl) (by kernel_rfl) (fun _ _ _ h => h) (Or.inl ⟨rfl, fun w => rfl⟩) ?_
            refine wpAny_take (i := 3) (v := .int .i64 (j : Int)) rfl (by kernel_rfl) (by kernel_rfl) (by kernel_rfl) (fun _ _ _ h => h) (Or.inl ⟨rfl, fun w => rfl⟩) ?_
            refine wpAny_take (i := 4) (v := .int .i64 ((j : Int) - 1)) rfl (by kernel_rfl) (by kernel_rfl) (by kernel_rfl) (fun _ _ _ h => h) (Or.inl ⟨rfl, fun w => ?_⟩) ?_
            · refine Eq.trans (b := .ok (.value (.int .i64 (IntKind.i64.wrap ((j : Int) - 1)))) w) rfl ?_
              rw [IntWalk.i64_in _ (by omega)]
            refine Qt.wpAny_quiet_tail 14 ([0, 1] ++ (List.range 9).map (· + 5)) (fun l => l.take 2 ++ (l.drop 5).take 9) _ _ rfl rfl (by kernel_rfl) ?_
            simp only [List.take_succ_cons, List.take_zero, List.drop_succ_cons, List.drop_zero, List.cons_append, List.nil_append, Act.put, List.getElem_toArray, List.getElem_cons_succ, List.getElem_cons_zero, List.setIfInBounds_toArray, List.set_cons_succ, List.set_cons_zero]
            repeat (go_big_quiet_step ((fail)))
            refine wpQuiet_nil ?_
            intro w12 hw12
            have hb12 : Below w11.heap.size w11 w12 := by obtain ⟨m, rfl⟩ := hw12; exact pw_below_drewN (Below.refl _ _) m
            have hsz11 : base ≤ w11.heap.size := by have := HBW.out; have := HB11.out.2.size; omega
            have HB12 := Aside0.mk (show RnB base w12 b n N ∧ Below base w w12 from ⟨HB11.out.1.below hb12, HB11.out.2.trans (hb12.mono hsz11)⟩)
            clear hw12 hb12 hsz11 c0 c1 c2 c3 c4 d0 d1 d2 d3 d4 f5
            obtain ⟨⟨x0, x1, x2, x3, x4⟩, _, c0, c1, c2, c3, c4⟩ := HB12.out.1.at_ j (by omega)
            have f5 := HB12.out.1.fz
            have hp1 := HB12.out.1.put j (by omega) ⟨s0, s1, s2, s3, s4⟩ HSY2.out
            rw [putRn_eq] at hp1
            obtain ⟨w13, hw13⟩ : ∃ w13, ((((w12.setCell ⟨b, j * 5, none⟩ (.int .i64 s0)).setCell ⟨b, j * 5 + 1, none⟩ (.int .i64 s1)).setCell ⟨b, j * 5 + 2, none⟩ (.int .i64 s2)).setCell ⟨b, j * 5 + 3, none⟩ (.int .i64 s3)).setCell ⟨b, j * 5 + 4, none⟩ (.int .i64 s4) = w13 := ⟨_, rfl⟩
            rw [hw13] at hp1
            have HP1 := Aside0.mk hp1
            obtain ⟨⟨y0, y1, y2, y3, y4⟩, _, d0, d1, d2, d3, d4⟩ := hp1.1.at_ (j - 1) (by omega)
            have f6 := hp1.1.fz
            clear hp1
            go_wp2
            have hp2 := HP1.out.1.put (j - 1) (by omega) ⟨r0, r1, r2, r3, r4⟩ HRY2.out
            rw [putRn_eq] at hp2
            obtain ⟨w14, hw14⟩ : ∃ w14, ((((w13.setCell ⟨b, (j - 1) * 5, none⟩ (.int .i64 r0)).setCell ⟨b, (j - 1) * 5 + 1, none⟩ (.int .i64 r1)).setCell ⟨b, (j - 1) * 5 + 2, none⟩ (.int .i64 r2)).setCell ⟨b, (j - 1) * 5 + 3, none⟩ (.int .i64 r3)).setCell ⟨b, (j - 1) * 5 + 4, none⟩ (.int .i64 r4) = w14 := ⟨_, rfl⟩
            rw [hw14] at hp2 ⊢
            have HP2 := Aside0.mk hp2
            clear hp2 hw14 hw13 c0 c1 c2 c3 c4 d0 d1 d2 d3 d4 f5 f6
            go_roundg (gk - 1)
            case measure => have := HKJ.out; omega
            case rel => exact ⟨j - 1, by rw [show ((j : Int) - 1) = ((j - 1 : Nat) : Int) by omega], ⟨by have := HKJ.out; omega, by omega, fun _ => ⟨b, rfl, HP2.out.1⟩, (HB12.out.2.trans HP1.out.2.1).trans HP2.out.2.1⟩⟩
          · have b1 : (cc < 0) = False := eq_false hneg
            go_wp2
            go_roundg (ko - 1)
            case measure => have := HKQ.out; omega
            case rel => exact ⟨i + 1, by rw [show ((i : Int) + 1) = ((i + 1 : Nat) : Int) by omega], ⟨by have := HKQ.out; omega, by omega, by omega, fun _ => ⟨b, rfl, HB10.out.1⟩, HB10.out.2⟩⟩
        · obtain rfl : j = 0 := by omega
          go_upto_region 4 with (fail)
          go_quiet (fail)
          have hbq : Below wr.heap.size wr (wr.drewN nq) := pw_below_drewN (Below.refl _ wr) nq
          have HBQ := Aside0.mk (show RnV base (wr.drewN nq) A n N ∧ Below base w (wr.drewN nq) from ⟨HV2.out.below hbq, HB2.out.trans (hbq.mono (Nat.le_trans HBW.out HB2.out.size))⟩)
          obtain ⟨w9, hw9⟩ : ∃ w9, w9 = wr.drewN nq := ⟨_, rfl⟩
          rw [← hw9] at HBQ ⊢
          clear hw9 hbq
          go_wp2
          go_roundg (ko - 1)
          case measure => have := HKQ.out; omega
          case rel => exact ⟨i + 1, by rw [show ((i : Int) + 1) = ((i + 1 : Nat) : Int) by omega], ⟨by have := HKQ.out; omega, by omega, by omega, HBQ.out.1, HBQ.out.2⟩⟩
    · have p1 : ((i : Int) < (n : Int)) = False := eq_false (by omega)
      go_wp2
      go_end0
      exact ⟨rfl, HV1.out, HB.out⟩
end Go.Proofs.YtbpoapfkeinjnaaGreatDoor.Ld
namespace Go.Proofs.YtbpoapfkeinjnaaGreatDoor.Ld
open Go.RowKit Go.Proofs.YtbpoapfkeinjnaaGreatDoorW.PrintWords Go.Proofs.YtbpoapfkeinjnaaGreatDoorW.PrintLast Go.Proofs.YtbpoapfkeinjnaaGreatDoorW.PrintMore
set_option linter.unusedVariables false
set_option linter.unusedSimpArgs false
set_option linter.unnecessarySimpa false
set_option maxHeartbeats 8000000 in
set_option maxRecDepth 100000 in
theorem rstable_calls (base : Nat) (A : Option Addr) (n c N : Nat) (w : World) (h : RnV base w A n N) (hbw : base ≤ w.heap.size) (hn : n ≤ 12) :
    Calls Tryz.prog 166 #[.slice A n c, .int .i64 (n : Int), .func (.func 143) #[] #[]] w fun e w' => e = .returned (.tuple #[]) ∧ RnV base w' A n N ∧ Below base w w' := by
  have HV := Aside0.mk h
  have HBW := Aside0.mk hbw
  have p1 : (20 ≤ (n : Int)) = False := eq_false (by omega)
  have p2 : (20 < (n : Int)) = False := eq_false (by omega)
  clear h hbw
  go_enter Tryz.func166, Tryz.ntmps166
  go_wp2
  refine wp_loop_once ?_
  go_wp2_with (go_at_call 173; go_loud (refine (rins_calls base A n c N _ HV.out HBW.out hn).mono ?_); rintro e w2 ⟨rfl, h1, h2⟩; have H1 := Aside0.mk (And.intro h1 h2); clear h1 h2)
  refine wp_loop_once ?_
  go_wp2
  go_end0
  exact ⟨rfl, H1.out⟩
set_option maxHeartbeats 8000000 in
set_option maxRecDepth 100000 in
theorem rsort_calls (base : Nat) (A : Option Addr) (n c N : Nat) (w : World) (h : RnV base w A n N) (hbw : base ≤ w.heap.size) (hn : n ≤ 12) :
    Calls Tryz.prog 142 #[.slice A n c, .func (.func 143) #[] #[]] w fun e w' => e = .returned (.tuple #[]) ∧ RnV base w' A n N ∧ Below base w w' := by
  have HV := Aside0.mk h
  have HBW := Aside0.mk hbw
  clear h hbw
  go_enter Tryz.func142, Tryz.ntmps142
  go_wp2_with (go_at_call 166; go_loud (refine (rstable_calls base A n c N _ HV.out HBW.out hn).mono ?_); rintro e w2 ⟨rfl, h1, h2⟩; have H1 := Aside0.mk (And.intro h1 h2); clear h1 h2)
  go_end0
  exact ⟨rfl, H1.out⟩
end Go.Proofs.YtbpoapfkeinjnaaGreatDoor.Ld
namespace Go.Proofs.YtbpoapfkeinjnaaGreatDoor.Ld
open Go.RowKit Go.Proofs.YtbpoapfkeinjnaaGreatDoorW.PrintWords Go.Proofs.YtbpoapfkeinjnaaGreatDoorW.PrintLast Go.Proofs.YtbpoapfkeinjnaaGreatDoorW.PrintMore
set_option linter.unusedVariables false
set_option linter.unusedSimpArgs false
structure Grew (w1 w6 : World) (v v6 : Value) (n : Nat) (xs : List Value) : Prop where
  own : w6.ownsRow 0 3 1 v6 n xs
  by_ : w1.grownBy w6 v.ownBlock
  at_ : v6.ownBlock = v.ownBlock ∨ ∃ b, v6.ownBlock = some b ∧ w1.heap.size ≤ b
theorem wp_app {P : Program} {ops : Array Oper} {rest : List Oper} {o : Oper} {a : Act} {Q : Exit → Act → World → Prop} {w1 : World} (hgd : o.guard = none) (s x : Operand)
    (ho : o.op = .call { callee := .builtin .append, args := #[s, x], argTypes := #[22, 22] }) (ht : P.underlying 22 = some (.slice 3)) (hinfo : (P.info? 3).map (fun i => (i.zero, i.size, i.bytes)) = some (some (.int .i64 0), 1, 8))
    (v : Value) (n b : Nat) (xs : List Value) (y : Int) (hs : a.eval s = v) (hx : a.eval x = .slice (some ⟨b, 0, none⟩) 1 1) (hr : w1.ownsRow 0 3 1 v n xs) (hb : w1.heap[b]? = some (.cells #[.int .i64 y] 3 (0, 0))) (h63 : n ≤ 1000000)
    (h : ∀ v6 w6, Aside0 (Grew w1 w6 v v6 (n + 1) (xs ++ [.int .i64 y])) → wpList P ops Q rest (a.put o.dst v6) w6) : wpList P ops Q (o :: rest) a w1 := by
  obtain ⟨i0, hi, hz0, hz1, hz2⟩ := info_parts hinfo
  refine wpList_append_own_at _ hgd s x 22 ho 0 3 i0 (.int .i64 0) 1 8 ht hi hz0 hz1 hz2 rfl (by decide) v n xs hs hr ⟨b, 0, none⟩ 1 1 [.int .i64 y] hx rfl (fun j u hj => ?_) (by simp [Value.oneCell']) (by simp only [maxLen]; omega) (by omega) (Nat.zero_le _) ?_
  · rw [show (⟨b, 0, none⟩ : Addr).add j = ⟨b, j, none⟩ from by unfold Addr.add; split <;> simp_all]
    refine (blk_cell hb j).trans ?_
    rw [← hj, ← Array.getElem?_toList]
  · intro v6 w6 ho6 hg6 _ hat6
    exact h v6 w6 ⟨ho6, hg6, by rcases hat6 with h | h; exact .inl h; exact .inr ⟨_, h, Nat.le_refl _⟩⟩
theorem slRow_set (N x : Nat) (r : Nat → Value) (v : Value) (hx : x < N) : (slRow N r).set x v = slRow N (upf r x v) := by
  unfold slRow
  apply List.ext_getElem
  · simp
  · intro i h1 h2
    rw [List.getElem_set]
    simp only [List.getElem_map, List.getElem_range]
    by_cases h : x = i
    · rw [if_pos h, ← h, upf_same]
    · rw [if_neg h, upf_far _ _ _ (fun e => h e.symm)]
theorem maskRow_set (N x : Nat) (T : Nat → Nat) (m : Nat) : (maskRow N T).set x (.int .u64 (m : Int)) = maskRow N (upf T x m) := by
  unfold maskRow
  apply List.ext_getElem
  · simp
  · intro i h1 h2
    rw [List.getElem_set]
    simp only [List.getElem_map, List.getElem_range]
    by_cases h : x = i
    · rw [if_pos h, ← h, upf_same]
    · rw [if_neg h, upf_far _ _ _ (fun e => h e.symm)]
theorem ints_snoc (xs : List Int) (y : Int) : ints xs ++ [.int .i64 y] = ints (xs ++ [y]) := by unfold ints encs; rw [List.map_append]; rfl
theorem own_apart {w : World} {e e' : TypeId} {sz sz' n n' : Nat} {v v' : Value} {xs xs' : List Value} (h : w.ownsRow 0 e sz v n xs) (h' : w.ownsRow 0 e' sz' v' n' xs') (hne : e ≠ e') (k : Nat) (hk : v.ownBlock = some k) : v'.ownBlock ≠ some k := fun hk' => by
  rcases h.2 with ⟨rfl, _⟩ | ⟨g, cap, cur, rfl, _, hh, _⟩
  · cases hk
  · have hg : g = k := Option.some.inj hk
    subst hg
    exact own_ne h' hh (fun e => hne e.symm) hk'.symm
section
variable {S : Nat → Prop} {w : World} {g : Nat} {G : Gr} {vs : Bool → Value} {vt : Value} {rv : Bool → Nat → Value}
structure Grown2 (w W : World) (v u v6 v7 : Value) (n6 n7 : Nat) (xs6 xs7 : List Value) : Prop where
  o6 : W.ownsRow 0 3 1 v6 n6 xs6
  o7 : W.ownsRow 0 3 1 v7 n7 xs7
  chg : Chg (fun k => v.ownBlock = some k ∨ u.ownBlock = some k) w W
  a6 : v6.ownBlock = v.ownBlock ∨ ∃ b, v6.ownBlock = some b ∧ w.heap.size ≤ b
  a7 : v7.ownBlock = u.ownBlock ∨ ∃ b, v7.ownBlock = some b ∧ w.heap.size ≤ b
  ne : ∀ k, v6.ownBlock = some k → v7.ownBlock ≠ some k
theorem grown2 {wa w6 wb w7 W : World} {v u v6 v7 : Value} {n n' n6 n7 : Nat} {xs xs' xs6 xs7 : List Value} (hv : w.ownsRow 0 3 1 v n xs) (hu : w.ownsRow 0 3 1 u n' xs') (hvu : ∀ k, v.ownBlock = some k → u.ownBlock ≠ some k)
    (ba : Below w.heap.size w wa) (k1 : Grew wa w6 v v6 n6 xs6) (bb : Below w6.heap.size w6 wb) (k2 : Grew wb w7 u v7 n7 xs7) (bW : Below w7.heap.size w7 W) : Grown2 w W v u v6 v7 n6 n7 xs6 xs7 := by
  have lv := own_lt hv
  have lu := own_lt hu
  have s1 := ba.size
  have s2 := k1.by_.size
  have s3 := bb.size
  have s4 := k2.by_.size
  have hne6u : ∀ k, v6.ownBlock = some k → u.ownBlock ≠ some k := fun k hk hk' => by
    rcases k1.at_ with h | ⟨b, h, hb⟩
    · exact hvu k (h ▸ hk) hk'
    · rw [h] at hk
      have := Option.some.inj hk
      have := lu k hk'
      omega
  refine ⟨?_, own_same k2.own fun k hk => bW.block k (own_lt k2.own k hk), ?_, ?_, ?_, fun k hk => ?_⟩
  · refine own_same k1.own fun k hk => ?_
    have hl := own_lt k1.own k hk
    rw [bW.block k (by omega), k2.by_.block k (by omega) (fun e => hne6u k hk e.symm), bb.block k hl]
  · refine ⟨?_, ?_, ?_, ?_, fun k hk hn => ?_⟩
    · exact bW.os.trans (k2.by_.os.trans (bb.os.trans (k1.by_.os.trans ba.os)))
    · exact bW.tape.trans (k2.by_.tape.trans (bb.tape.trans (k1.by_.tape.trans ba.tape)))
    · exact bW.output.trans (k2.by_.output.trans (bb.output.trans (k1.by_.output.trans ba.output)))
    · have := bW.size; omega
    · rw [bW.block k (by omega), k2.by_.block k (by omega) (fun e => hn (.inr e.symm)), bb.block k (by omega), k1.by_.block k (by omega) (fun e => hn (.inl e.symm)), ba.block k hk]
  · rcases k1.at_ with h | ⟨b, h, hb⟩
    · exact .inl h
    · exact .inr ⟨b, h, by omega⟩
  · rcases k2.at_ with h | ⟨b, h, hb⟩
    · exact .inl h
    · exact .inr ⟨b, h, by omega⟩
  · rcases k2.at_ with h | ⟨b, h, hb⟩
    · rw [h]; exact hne6u k hk
    · rw [h]
      intro e
      have := Option.some.inj e
      have := own_lt k1.own k hk
      omega
def rvAdd (rv : Bool → Nat → Value) (x y : Nat) (v6 v7 : Value) (b : Bool) (j : Nat) : Value := match b with
  | false => if j = x then v6 else rv false j
  | true => if j = y then v7 else rv true j
theorem GrP.add (H : GrP S w g G vs vt rv) (nn : Int) {x y : Nat} (hx : x < G.N) (hy : y < G.N) {W : World} {v6 v7 : Value} {kf kt km cf ct cm : Nat} (hf : vs false = .slice (some ⟨kf, 0, none⟩) G.N cf) (ht : vs true = .slice (some ⟨kt, 0, none⟩) G.N ct) (hm : vt = .slice (some ⟨km, 0, none⟩) G.N cm)
    (h : Grown2 w W (rv false x) (rv true y) v6 v7 ((G.L false x).length + 1) ((G.L true y).length + 1) (ints (G.L false x) ++ [.int .i64 (y : Int)]) (ints (G.L true y) ++ [.int .i64 (x : Int)])) :
    GrP (up S w W) ((((W.setCell ⟨kf, x, none⟩ v6).setCell ⟨kt, y, none⟩ v7).setCell ⟨km, x, none⟩ (.int .u64 ((G.T x ||| 2 ^ y : Nat) : Int))).setCell ⟨g, 3, none⟩ (.int .i64 nn)) g { addG G x y with n := nn } vs vt (rvAdd rv x y v6 v7) ∧
      Chg S w ((((W.setCell ⟨kf, x, none⟩ v6).setCell ⟨kt, y, none⟩ v7).setCell ⟨km, x, none⟩ (.int .u64 ((G.T x ||| 2 ^ y : Nat) : Int))).setCell ⟨g, 3, none⟩ (.int .i64 nn)) := by
  have rx := H.rr false x hx
  have ry := H.rr true y hy
  have hoff : ∀ k, k < w.heap.size → (rv false x).ownBlock ≠ some k → (rv true y).ownBlock ≠ some k → W.heap[k]? = w.heap[k]? := fun k hk h1 h2 => h.chg.block k hk (fun e => by rcases e with e | e; exact h1 e; exact h2 e)
  have hg0 : W.heap[g]? = some (.cells #[vs false, vs true, vt, .int .i64 G.n] 126 (0, 0)) := (hoff g (blk_lt H.blk) (fun e => own_ne rx.own H.blk (by decide) e.symm) (fun e => own_ne ry.own H.blk (by decide) e.symm)).trans H.blk
  have hrow : ∀ b, W.ownsRow 0 22 1 (vs b) G.N (slRow G.N (rv b)) := fun b => own_same (H.row b).own fun k hk => hoff k (own_lt (H.row b).own k hk) (own_apart (H.row b).own rx.own (by decide) k hk) (own_apart (H.row b).own ry.own (by decide) k hk)
  have hmask : W.ownsRow 0 171 1 vt G.N (maskRow G.N G.T) := own_same H.rt.own fun k hk => hoff k (own_lt H.rt.own k hk) (own_apart H.rt.own rx.own (by decide) k hk) (own_apart H.rt.own ry.own (by decide) k hk)
  have okf : (vs false).ownBlock = some kf := by rw [hf]; rfl
  have okt : (vs true).ownBlock = some kt := by rw [ht]; rfl
  have okm : vt.ownBlock = some km := by rw [hm]; rfl
  have hft : kf ≠ kt := fun e => H.rne kf okf (e ▸ okt)
  -- the rows of numbers at W
  have hrr : ∀ b j, j < G.N → W.ownsRow 0 3 1 (rvAdd rv x y v6 v7 b j) ((addG G x y).L b j).length (ints ((addG G x y).L b j)) := fun b j hj => by
    cases b with
    | false =>
      show W.ownsRow 0 3 1 (if j = x then v6 else rv false j) ((if j = x then G.L false x ++ [(y : Int)] else G.L false j)).length (ints (if j = x then G.L false x ++ [(y : Int)] else G.L false j))
      by_cases e : j = x
      · rw [if_pos e, if_pos e, ← ints_snoc, List.length_append]; exact h.o6
      · rw [if_neg e, if_neg e]
        exact own_same (H.rr false j hj).own fun k hk => hoff k (own_lt (H.rr false j hj).own k hk) (H.ap false j false x hj hx (by simp [e]) k hk) (H.ap false j true y hj hy (by simp) k hk)
    | true =>
      show W.ownsRow 0 3 1 (if j = y then v7 else rv true j) ((if j = y then G.L true y ++ [(x : Int)] else G.L true j)).length (ints (if j = y then G.L true y ++ [(x : Int)] else G.L true j))
      by_cases e : j = y
      · rw [if_pos e, if_pos e, ← ints_snoc, List.length_append]; exact h.o7
      · rw [if_neg e, if_neg e]
        exact own_same (H.rr true j hj).own fun k hk => hoff k (own_lt (H.rr true j hj).own k hk) (H.ap true j false x hj hx (by simp) k hk) (H.ap true j true y hj hy (by simp [e]) k hk)
  have hfp : ∀ b j, j < G.N → ∀ k, (rvAdd rv x y v6 v7 b j).ownBlock = some k → up S w W k := fun b j hj k hk => by
    have hl := own_lt (hrr b j hj) k hk
    cases b with
    | false =>
      have hk' : (if j = x then v6 else rv false j).ownBlock = some k := hk
      by_cases e : j = x
      · rw [if_pos e] at hk'
        rcases h.a6 with h6 | ⟨b, h6, hb⟩
        · exact .inl (rx.fp k (h6 ▸ hk'))
        · rw [h6] at hk'; have := Option.some.inj hk'; exact .inr ⟨by omega, hl⟩
      · rw [if_neg e] at hk'; exact .inl ((H.rr false j hj).fp k hk')
    | true =>
      have hk' : (if j = y then v7 else rv true j).ownBlock = some k := hk
      by_cases e : j = y
      · rw [if_pos e] at hk'
        rcases h.a7 with h6 | ⟨b, h6, hb⟩
        · exact .inl (ry.fp k (h6 ▸ hk'))
        · rw [h6] at hk'; have := Option.some.inj hk'; exact .inr ⟨by omega, hl⟩
      · rw [if_neg e] at hk'; exact .inl ((H.rr true j hj).fp k hk')
  -- the four stores
  have b22 : ∀ b, W.ownsRow 0 22 1 (vs b) G.N (slRow G.N (rv b)) := hrow
  have f1 := (hf ▸ b22 false : W.ownsRow 0 22 1 (.slice (some ⟨kf, 0, none⟩) G.N cf) G.N (slRow G.N (rv false)))
  have t1 := (ht ▸ b22 true : W.ownsRow 0 22 1 (.slice (some ⟨kt, 0, none⟩) G.N ct) G.N (slRow G.N (rv true)))
  have m1 := (hm ▸ hmask : W.ownsRow 0 171 1 (.slice (some ⟨km, 0, none⟩) G.N cm) G.N (maskRow G.N G.T))
  have f2 := (f1.stored x v6).1
  rw [slRow_set G.N x _ _ hx] at f2
  have kfg : (some g : Option Nat) ≠ (Value.slice (some ⟨kf, 0, none⟩) G.N cf).ownBlock := own_ne f1 hg0 (by decide)
  have ktg : (some g : Option Nat) ≠ (Value.slice (some ⟨kt, 0, none⟩) G.N ct).ownBlock := own_ne t1 hg0 (by decide)
  have kmg : (some g : Option Nat) ≠ (Value.slice (some ⟨km, 0, none⟩) G.N cm).ownBlock := own_ne m1 hg0 (by decide)
  have hfm : kf ≠ km := fun e => own_apart f1 m1 (by decide) kf rfl (by rw [e]; rfl)
  have htm : kt ≠ km := fun e => own_apart t1 m1 (by decide) kt rfl (by rw [e]; rfl)
  have hgf : g ≠ kf := fun e => kfg (by rw [e]; rfl)
  have hgt : g ≠ kt := fun e => ktg (by rw [e]; rfl)
  have hgm : g ≠ km := fun e => kmg (by rw [e]; rfl)
  have nef : ∀ {v : Value} {n : Nat} {xs : List Value} {k : Nat}, v.ownBlock = some k → ∀ j, k ≠ j → some j ≠ v.ownBlock := fun hk j hne e => hne (Option.some.inj (hk.symm.trans e.symm))
  obtain ⟨w1, hw1⟩ : ∃ w1, w1 = W.setCell ⟨kf, x, none⟩ v6 := ⟨_, rfl⟩
  obtain ⟨w2, hw2⟩ : ∃ w2, w2 = w1.setCell ⟨kt, y, none⟩ v7 := ⟨_, rfl⟩
  obtain ⟨w3, hw3⟩ : ∃ w3, w3 = w2.setCell ⟨km, x, none⟩ (.int .u64 ((G.T x ||| 2 ^ y : Nat) : Int)) := ⟨_, rfl⟩
  obtain ⟨w4, hw4⟩ : ∃ w4, w4 = w3.setCell ⟨g, 3, none⟩ (.int .i64 nn) := ⟨_, rfl⟩
  rw [← hw1, ← hw2, ← hw3, ← hw4]
  have F1 : w1.ownsRow 0 22 1 (vs false) G.N (slRow G.N (upf (rv false) x v6)) := by rw [hf, hw1]; exact f2
  have T1 : w1.ownsRow 0 22 1 (vs true) G.N (slRow G.N (rv true)) := by rw [hw1]; exact own_setCell (b22 true) (by rw [okt]; exact fun e => hft (Option.some.inj e)) _
  have M1 : w1.ownsRow 0 171 1 vt G.N (maskRow G.N G.T) := by rw [hw1]; exact own_setCell hmask (by rw [okm]; exact fun e => hfm (Option.some.inj e)) _
  have F2 : w2.ownsRow 0 22 1 (vs false) G.N (slRow G.N (upf (rv false) x v6)) := by rw [hw2]; exact own_setCell F1 (by rw [okf]; exact fun e => hft (Option.some.inj e).symm) _
  have T2 : w2.ownsRow 0 22 1 (vs true) G.N (slRow G.N (upf (rv true) y v7)) := by
    have := (show w1.ownsRow 0 22 1 (.slice (some ⟨kt, 0, none⟩) G.N ct) G.N (slRow G.N (rv true)) from ht ▸ T1).stored y v7
    rw [slRow_set G.N y _ _ hy] at this
    rw [ht, hw2]; exact this.1
  have M2 : w2.ownsRow 0 171 1 vt G.N (maskRow G.N G.T) := by rw [hw2]; exact own_setCell M1 (by rw [okm]; exact fun e => htm (Option.some.inj e)) _
  have F3 : w3.ownsRow 0 22 1 (vs false) G.N (slRow G.N (upf (rv false) x v6)) := by rw [hw3]; exact own_setCell F2 (by rw [okf]; exact fun e => hfm (Option.some.inj e).symm) _
  have T3 : w3.ownsRow 0 22 1 (vs true) G.N (slRow G.N (upf (rv true) y v7)) := by rw [hw3]; exact own_setCell T2 (by rw [okt]; exact fun e => htm (Option.some.inj e).symm) _
  have M3 : w3.ownsRow 0 171 1 vt G.N (maskRow G.N (upf G.T x (G.T x ||| 2 ^ y))) := by
    have := (show w2.ownsRow 0 171 1 (.slice (some ⟨km, 0, none⟩) G.N cm) G.N (maskRow G.N G.T) from hm ▸ M2).stored x (.int .u64 ((G.T x ||| 2 ^ y : Nat) : Int))
    rw [maskRow_set] at this
    rw [hm, hw3]; exact this.1
  have F4 : w4.ownsRow 0 22 1 (vs false) G.N (slRow G.N (upf (rv false) x v6)) := by rw [hw4]; exact own_setCell F3 (by rw [okf]; exact fun e => hgf (Option.some.inj e)) _
  have T4 : w4.ownsRow 0 22 1 (vs true) G.N (slRow G.N (upf (rv true) y v7)) := by rw [hw4]; exact own_setCell T3 (by rw [okt]; exact fun e => hgt (Option.some.inj e)) _
  have M4 : w4.ownsRow 0 171 1 vt G.N (maskRow G.N (upf G.T x (G.T x ||| 2 ^ y))) := by rw [hw4]; exact own_setCell M3 (by rw [okm]; exact fun e => hgm (Option.some.inj e)) _
  have G4 : w4.heap[g]? = some (.cells #[vs false, vs true, vt, .int .i64 nn] 126 (0, 0)) := by
    have g1 := blk_far hg0 (p := ⟨kf, x, none⟩) hgf v6
    have g2 := blk_far g1 (p := ⟨kt, y, none⟩) hgt v7
    have g3 := blk_far g2 (p := ⟨km, x, none⟩) hgm (.int .u64 ((G.T x ||| 2 ^ y : Nat) : Int))
    have g4 := blk_put g3 3 (.int .i64 nn) rfl
    rw [hw4, hw3, hw2, hw1]; exact g4
  have hcW : Chg (fun k => k = kf ∨ k = kt ∨ k = km ∨ k = g) W w4 := by
    rw [hw4, hw3, hw2, hw1]
    exact (((((Chg.refl (fun k => k = kf ∨ k = kt ∨ k = km ∨ k = g) W).set (.inl rfl) _ _).set (.inr (.inl rfl)) _ _).set (.inr (.inr (.inl rfl))) _ _).set (.inr (.inr (.inr rfl))) _ _)
  have hS : ∀ k, k = kf ∨ k = kt ∨ k = km ∨ k = g → S k := fun k hk => by
    rcases hk with rfl | rfl | rfl | rfl
    · exact (H.row false).fp k okf
    · exact (H.row true).fp k okt
    · exact H.rt.fp k okm
    · exact H.fg
  have hc0 : Chg S w W := h.chg.mono fun k hk => by
    rcases hk with hk | hk
    · exact rx.fp k hk
    · exact ry.fp k hk
  have hsz : w4.heap.size = W.heap.size := by rw [hw4, hw3, hw2, hw1]; simp [World.setCell]
  refine ⟨⟨G4, fun b => ?_, H.rne, ?_, fun b j hj => ⟨?_, hfp b j hj⟩, fun b j b' j' hj hj' hne k hk => ?_, .inl H.fg⟩, hc0.trans (hcW.mono hS)⟩
  · cases b with
    | false =>
      refine ⟨?_, fun k hk => .inl ((H.row false).fp k hk)⟩
      have e : slRow (addG G x y).N (rvAdd rv x y v6 v7 false) = slRow G.N (upf (rv false) x v6) := by
        show slRow G.N _ = _
        unfold slRow
        refine List.map_congr_left fun j _ => ?_
        show (if j = x then v6 else rv false j) = upf (rv false) x v6 j
        by_cases e : j = x
        · rw [if_pos e, e, upf_same]
        · rw [if_neg e, upf_far _ _ _ e]
      rw [e]; exact F4
    | true =>
      refine ⟨?_, fun k hk => .inl ((H.row true).fp k hk)⟩
      have e : slRow (addG G x y).N (rvAdd rv x y v6 v7 true) = slRow G.N (upf (rv true) y v7) := by
        show slRow G.N _ = _
        unfold slRow
        refine List.map_congr_left fun j _ => ?_
        show (if j = y then v7 else rv true j) = upf (rv true) y v7 j
        by_cases e : j = y
        · rw [if_pos e, e, upf_same]
        · rw [if_neg e, upf_far _ _ _ e]
      rw [e]; exact T4
  · refine ⟨?_, fun k hk => .inl (H.rt.fp k hk)⟩
    have e : maskRow (addG G x y).N (addG G x y).T = maskRow G.N (upf G.T x (G.T x ||| 2 ^ y)) := by
      show maskRow G.N _ = _
      unfold maskRow
      refine List.map_congr_left fun j _ => ?_
      show Value.int .u64 ((if j = x then G.T x ||| 2 ^ y else G.T j : Nat) : Int) = _
      by_cases e : j = x
      · rw [if_pos e, e, upf_same]
      · rw [if_neg e, upf_far _ _ _ e]
    rw [e]; exact M4
  · refine own_same (hrr b j hj) fun k hk => hcW.block k (own_lt (hrr b j hj) k hk) (fun e => ?_)
    rcases e with rfl | rfl | rfl | rfl
    · exact own_apart (hrr b j hj) (b22 false) (by decide) k hk okf
    · exact own_apart (hrr b j hj) (b22 true) (by decide) k hk okt
    · exact own_apart (hrr b j hj) hmask (by decide) k hk okm
    · exact own_ne (hrr b j hj) hg0 (by decide) hk.symm
  · have h6o : ∀ k, v6.ownBlock = some k → ∀ (b : Bool) (j : Nat), j < G.N → (b, j) ≠ (false, x) → (rv b j).ownBlock ≠ some k := fun k hk b j hj hne hk' => by
      rcases h.a6 with h6 | ⟨b2, h6, hb⟩
      · exact H.ap b j false x hj hx hne k hk' (h6 ▸ hk)
      · rw [h6] at hk
        have := Option.some.inj hk
        have := own_lt (H.rr b j hj).own k hk'
        omega
    have h7o : ∀ k, v7.ownBlock = some k → ∀ (b : Bool) (j : Nat), j < G.N → (b, j) ≠ (true, y) → (rv b j).ownBlock ≠ some k := fun k hk b j hj hne hk' => by
      rcases h.a7 with h6 | ⟨b2, h6, hb⟩
      · exact H.ap b j true y hj hy hne k hk' (h6 ▸ hk)
      · rw [h6] at hk
        have := Option.some.inj hk
        have := own_lt (H.rr b j hj).own k hk'
        omega
    have cas : ∀ (b : Bool) (j : Nat), (rvAdd rv x y v6 v7 b j = v6 ∧ (b, j) = (false, x)) ∨ (rvAdd rv x y v6 v7 b j = v7 ∧ (b, j) = (true, y)) ∨ (rvAdd rv x y v6 v7 b j = rv b j ∧ (b, j) ≠ (false, x) ∧ (b, j) ≠ (true, y)) := fun b j => by
      cases b with
      | false =>
        by_cases e : j = x
        · exact .inl ⟨if_pos e, by rw [e]⟩
        · exact .inr (.inr ⟨if_neg e, by simp [e], by simp⟩)
      | true =>
        by_cases e : j = y
        · exact .inr (.inl ⟨if_pos e, by rw [e]⟩)
        · exact .inr (.inr ⟨if_neg e, by simp, by simp [e]⟩)
    rcases cas b j with ⟨e1, i1⟩ | ⟨e1, i1⟩ | ⟨e1, i1, i1'⟩ <;> rcases cas b' j' with ⟨e2, i2⟩ | ⟨e2, i2⟩ | ⟨e2, i2, i2'⟩ <;> rw [e1] at hk <;> rw [e2]
    · exact absurd (i1.trans i2.symm) hne
    · exact h.ne k hk
    · exact h6o k hk b' j' hj' i2
    · exact fun hk' => h.ne k hk' hk
    · exact absurd (i1.trans i2.symm) hne
    · exact h7o k hk b' j' hj' i2'
    · exact fun hk' => h6o k hk' b j hj i1 hk
    · exact fun hk' => h7o k hk' b j hj i1' hk
    · exact H.ap b j b' j' hj hj' hne k hk
end
end Go.Proofs.YtbpoapfkeinjnaaGreatDoor.Ld
