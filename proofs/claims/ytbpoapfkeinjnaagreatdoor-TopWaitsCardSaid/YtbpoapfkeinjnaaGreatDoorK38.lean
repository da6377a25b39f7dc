/- The engine of the yard and what it leans on, part 38. -/
import Derived.Test.YtbpoapfkeinjnaaGreatDoorK37
import Derived.Test.YtbpoapfkeinjnaaGreatDoorRows
import Derived.WalkKit
import Derived.ProofKit
import Derived.OpenShut
import Derived.ShutString
import Derived.ChangeOld
import Derived.Below
import Derived.SizedLaws
namespace Go.Proofs.YtbpoapfkeinjnaaGreatDoor.Ld
open Go.RowKit Go.Proofs.YtbpoapfkeinjnaaGreatDoorW.PrintWords Go.Proofs.YtbpoapfkeinjnaaGreatDoorW.PrintLast Go.Proofs.YtbpoapfkeinjnaaGreatDoorW.PrintMore
set_option linter.unusedVariables false
set_option linter.unusedSimpArgs false
set_option linter.unnecessarySimpa false
attribute [local go_sem] max2_int min2_int max_two min_two
set_option maxHeartbeats 8000000 in
set_option maxRecDepth 100000 in
theorem TopWaits_calls (bm : Nat) (c : Cf) (A1 : Option Addr) (n1 c1 : Nat) (l : List S29) (A2 : Option Addr) (n2 c2 : Nat) (ops : List S39) (w : World) (hv : Vars bm w) (hl : Kd.C k29 w A1 n1 l) (hn1 : n1 ≤ 9223372036854775807) (ho : Kd.C k39 w A2 n2 ops) (hn2 : n2 ≤ 9223372036854775807) (hwf : ∀ i, i < n2 → (Lit.int .i64 (ops.getD i z39).f0).wf = true) :
    Calls Tryz.prog 4 #[.agg (encCf c), .slice A1 n1 c1, .slice A2 n2 c2] w fun en w' => en = .returned (.bool true) ∧ Below w.heap.size w w' := by
  have HV := Aside0.mk hv
  have HL := Aside0.mk hl
  have HO := Aside0.mk ho
  have HWF := Aside0.mk hwf
  obtain ⟨w0, hw0⟩ : ∃ w0, w0 = w.alloc (.cells (encCf c) 26) := ⟨_, rfl⟩
  have HB0 := Aside0.mk (show Below w.heap.size w w0 from hw0 ▸ below_alloc (Below.refl _ w) _)
  have HX0 := Aside0.mk (show w0.heap[w.heap.size]? = some (.cells (encCf c) 26 (0, 0)) from hw0 ▸ heap_alloc_new w (.cells (encCf c) 26))
  have HW0 := Aside0.mk hw0
  clear hv hl ho hwf hw0
  unfold encCf at HW0 HX0 ⊢
  go_enter Tryz.func4, Tryz.ntmps4
  go_upto_region 1 with (fail)
  rw [← HW0.out]
  obtain ⟨B, hB⟩ : ∃ B, w.heap.size = B := ⟨_, rfl⟩
  rw [hB] at HX0 ⊢
  have HBB := Aside0.mk hB
  clear hB
  go_upto_region 2 with (go_at_call 5; go_loud (refine (works_calls bm _ (HV.out.below HB0.out)).mono ?_); rintro en w1 ⟨rfl, hb⟩; have HB1 := Aside0.mk (below_step HB0.out hb); have HX1 := Aside0.mk (blk_below HX0.out hb); clear hb)
  go_upto_region 3 with (go_at_call 11; go_loud (refine (tasks_calls A1 n1 c1 l _ (Kd.C_below HL.out HB1.out) hn1).mono ?_); rintro en w2 ⟨A, cl, N, mem, cost, rfl, hN, hmc, hrow⟩; have HX2 := Aside0.mk (blk_below HX1.out hrow.2); have HB2 := Aside0.mk (below_step HB1.out hrow.2); have HRW := Aside0.mk hrow; have HMC := Aside0.mk hmc; have HN := Aside0.mk hN; clear hrow hmc hN)
  have e0 := (blk_cell HX2.out 0).trans (show _ = some (Value.int .i64 c.budget) from rfl)
  have e1 := (blk_cell HX2.out 1).trans (show _ = some (Value.int .i64 c.slots) from rfl)
  have e2 := (blk_cell HX2.out 2).trans (show _ = some (Value.int .i64 c.active) from rfl)
  have e3 := (blk_cell HX2.out 3).trans (show _ = some (Value.int .i64 c.queue) from rfl)
  have e4 := (blk_cell HX2.out 4).trans (show _ = some (Value.int .i64 c.tries) from rfl)
  have e5 := (blk_cell HX2.out 5).trans (show _ = some (Value.int .i64 c.preempts) from rfl)
  have e6 := (blk_cell HX2.out 6).trans (show _ = some (Value.int .i64 c.timeout) from rfl)
  have e7 := (blk_cell HX2.out 7).trans (show _ = some (Value.int .i64 c.backoff) from rfl)
  have e8 := (blk_cell HX2.out 8).trans (show _ = some (Value.int .i64 c.most) from rfl)
  have e9 := (blk_cell HX2.out 9).trans (show _ = some (Value.int .i64 c.quantum) from rfl)
  go_upto_region 4 with (first
    | (go_at_call 12; go_loud (refine (config_calls c _).mono ?_); rintro en w3 ⟨rfl, hb⟩; have HB3 := Aside0.mk (below_step HB2.out hb); have HR3 := Aside0.mk (HRW.out.on hb); clear hb)
    | (go_at_call 7; go_loud (refine (made_calls (cfgWide c) (cfgWide_ok c) N ⟨HN.out.1, by have := HN.out; omega⟩ mem cost (fun i _ => by have := HMC.out i; omega) A cl (fun k => w1.heap.size ≤ k) _ HR3.out.1).mono ?_); rintro en w4 ⟨g, K, rfl, hg, hat, hb⟩; have HL4 := Aside0.mk (LW.start HV.out HB3.out hat hb); clear hg hat hb))
  clear e0 e1 e2 e3 e4 e5 e6 e7 e8 e9
  have HI0 := Aside0.mk (LI.start c N HN.out mem cost HMC.out)
  obtain ⟨e, he⟩ : ∃ e, eng0 (cfgWide c) N mem cost = e := ⟨_, rfl⟩
  rw [he] at HL4 HI0
  obtain ⟨S0, hS0⟩ : ∃ S0 : Nat → Prop, (fun k => w3.heap.size ≤ k ∧ k < w4.heap.size) = S0 := ⟨_, rfl⟩
  rw [hS0] at HL4
  clear he hS0 HX0 HX1 HX2 HRW HMC HB3 HR3
  go_upto_block 0 with (fail)
  go_cut [] (fun wc => ∃ (i : Nat) (K : EK) (e : Eng) (S : Nat → Prop), Aside0 (i ≤ 150 ∧ LI N i e ∧ LW bm w g K e S wc))
  case first =>
    go_wp2
    go_loopg [9] 151 (fun kq v9 wr => ∃ (i : Nat) (K : EK) (e : Eng) (S : Nat → Prop), v9 = .int .i64 (i : Int) ∧ Aside0 (kq + i = 151 ∧ i ≤ 150 ∧ LI N i e ∧ LW bm w g K e S wr))
    case atStart => exact ⟨0, K, e, S0, rfl, ⟨by omega, by omega, HI0.out, HL4.out⟩⟩
    case round =>
      obtain ⟨i, K1, e1, S1, rfl, hA⟩ := hrel
      obtain ⟨hk, hi, hli, hlw⟩ := hA.out
      have HK := Aside0.mk hk
      have HI := Aside0.mk hli
      have HW := Aside0.mk hlw
      clear hA hk hli hlw HI0 HL4
      by_cases hlt : i < n2
      · have q1 : ((i : Int) < (n2 : Int)) = True := eq_true (by omega)
        by_cases h150 : i < 150
        · have q2 : ((i : Int) < 150) = True := eq_true (by omega)
          have q3 : (0 ≤ (i : Int)) = True := eq_true (by omega)
          obtain ⟨ad, rfl, d0, d1, d2, d3, d4⟩ := at_39 (Kd.C_below HO.out HW.out.bel) i hlt
          have HKW := Aside0.mk (HWF.out i hlt)
          obtain ⟨x0, hx0⟩ : ∃ x0, (ops.getD i z39).f0 = x0 := ⟨_, rfl⟩
          obtain ⟨x1, hx1⟩ : ∃ x1, (ops.getD i z39).f1 = x1 := ⟨_, rfl⟩
          obtain ⟨x2, hx2⟩ : ∃ x2, (ops.getD i z39).f2 = x2 := ⟨_, rfl⟩
          obtain ⟨x3, hx3⟩ : ∃ x3, (ops.getD i z39).f3 = x3 := ⟨_, rfl⟩
          obtain ⟨x4, hx4⟩ : ∃ x4, (ops.getD i z39).f4 = x4 := ⟨_, rfl⟩
          rw [hx0] at d0 HKW
          rw [hx1] at d1
          rw [hx2] at d2
          rw [hx3] at d3
          rw [hx4] at d4
          clear hx0 hx1 hx2 hx3 hx4
          go_upto_region 8 with (first
            | (go_at_call 13; go_loud (refine (op_calls S1 g K1 e1 ⟨x0, x1, x2, x3, x4⟩ _ HW.out.at_ (by have := HI.out.log; omega)).mono ?_); rintro en w5 ⟨⟨y0, y1, y2, y3, y4⟩, hk', rfl, hb⟩; have HW5 := Aside0.mk (HW.out.below hb); have HKY := Aside0.mk (show (Lit.int .i64 y0).wf = true from by have h : y0 = x0 := hk'; rw [h]; exact HKW.out); clear hk' hb)
            | (go_at_call 8; go_loud (refine (op_lit S1 bm g K1 e1 y0 y1 y2 y3 y4 _ HW5.out.at_ HW5.out.glb HKY.out HI.out.inv HI.out.sync (by have := HI.out.begun; omega) (by have := HI.out.log; omega)).mono ?_); rintro en w6 ⟨ra, rb, rc, rd', rf, er, e6, K6, hnx, rfl, hto⟩; have HW6 := Aside0.mk (HW5.out.step hto); have HI6 := Aside0.mk (HI.out.next hnx); clear hnx hto))
          go_wp2
          go_roundg (gk - 1)
          case measure => have := HK.out; omega
          case rel => exact ⟨i + 1, K6, e6, _, by rw [show ((i : Int) + 1) = ((i + 1 : Nat) : Int) by omega], ⟨by have := HK.out; omega, by omega, HI6.out, HW6.out⟩⟩
        · have q2 : ((i : Int) < 150) = False := eq_false (by omega)
          go_wp2
          go_meet
          exact ⟨i, K1, e1, S1, ⟨hi, HI.out, HW.out⟩⟩
      · have q1 : ((i : Int) < (n2 : Int)) = False := eq_false (by omega)
        go_wp2
        go_meet
        exact ⟨i, K1, e1, S1, ⟨hi, HI.out, HW.out⟩⟩
  case rest =>
    clear HI0 HL4
    obtain ⟨i5, K5, e5, S5, hA⟩ := hcut
    have HI := Aside0.mk hA.out.2.1
    have HW := Aside0.mk hA.out.2.2
    have hlog : e5.log.length ≤ 1800 := by have := hA.out.2.1.log; have := hA.out.1; omega
    clear hA
    have HLG := Aside0.mk hlog
    obtain ⟨L, hL⟩ : ∃ L, e5.log.length = L := ⟨_, rfl⟩
    have HLL := Aside0.mk hL
    rw [hL] at hlog
    clear hL
    go_upto_region 11 with (go_at_call 14; go_loud (refine (Log_calls S5 g K5 e5 _ HW.out.at_ (by have := HLG.out; omega)).mono ?_); rintro en w5 ⟨AL, cL, rfl, hev, hb⟩; have HEV := Aside0.mk hev; have HE5 := Aside0.mk (HW.out.at_.keep hb); have HBL := Aside0.mk (below_step HW.out.bel hb); clear hev hb)
    rw [HLL.out]
    have hN8 : N ≤ 8 := HN.out.2
    go_wp2
    go_loopg [11] (N + 1) (fun kq v11 wr => ∃ t : Nat, v11 = .int .i64 (t : Int) ∧ Aside0 (kq + t = N + 1 ∧ t ≤ N ∧ Below w5.heap.size w5 wr))
    case atStart => exact ⟨0, rfl, ⟨by omega, by omega, by first | exact Below.refl _ _ | exact pw_below_drewN (Below.refl _ _) 1⟩⟩
    case round =>
      obtain ⟨t, rfl, hA⟩ := hrel
      obtain ⟨hk, ht, hb⟩ := hA.out
      have HKT := Aside0.mk hk
      have HB := Aside0.mk hb
      clear hA hk hb
      by_cases hlt : t < N
      · have q1 : ((t : Int) < (N : Int)) = True := eq_true (by omega)
        have HTN := Aside0.mk (show t < e5.N from by rw [HI.out.N]; exact hlt)
        obtain ⟨st, hst⟩ : ∃ st, (e5.life t).state = st := ⟨_, rfl⟩
        have HST := Aside0.mk hst
        clear hst
        by_cases h5 : st = 5
        · subst h5
          obtain ⟨wt, rfl⟩ : ∃ wt : World, wt = wr := ⟨_, rfl⟩
          obtain ⟨gt, rfl⟩ : ∃ gt : Nat, gt = gk := ⟨_, rfl⟩
          go_upto_block 4 with (go_at_call 15; go_loud (refine (EState_calls S5 g K5 e5 t _ (HE5.out.keep HB.out) HI.out.inv.N.2 HTN.out).mono ?_); rintro en w6 ⟨rfl, hb⟩; rw [HST.out]; have HB6 := Aside0.mk (below_step HB.out hb); clear hb)
          go_cut [12] (fun v12 wc2 => ∃ b : Int, v12 = .int .i64 b ∧ Aside0 (LastB e5.log (t : Int) L b ∧ Below w5.heap.size w5 wc2))
          case first =>
            go_wp2
            go_loopg [12, 13] (L + 1) (fun kq v12 v13 wr => ∃ (j : Nat) (b : Int), v13 = .int .i64 (j : Int) ∧ v12 = .int .i64 b ∧ Aside0 (kq + j = L + 1 ∧ j ≤ L ∧ LastB e5.log (t : Int) j b ∧ Below w5.heap.size w5 wr))
            case atStart => exact ⟨0, -1, rfl, rfl, ⟨by omega, by omega, LastB.zero _ _, HB6.out⟩⟩
            case round =>
              obtain ⟨j, b, rfl, rfl, hA⟩ := hrel
              obtain ⟨hk, hj, hlb, hb⟩ := hA.out
              have HKJ := Aside0.mk hk
              have HLB := Aside0.mk hlb
              have HBJ := Aside0.mk hb
              clear hA hk hlb hb
              by_cases hjl : j < L
              · obtain ⟨ad, y, rfl, hy, y0, y1, -, -⟩ := (HEV.out.below HBJ.out).at_ j (by rw [HLL.out]; exact hjl)
                obtain ⟨kd, hkd⟩ : ∃ kd, y.kind = kd := ⟨_, rfl⟩
                obtain ⟨tk, htk⟩ : ∃ tk, y.task = tk := ⟨_, rfl⟩
                rw [hkd] at y0
                rw [htk] at y1
                have HY := Aside0.mk (And.intro hy (And.intro hkd htk))
                have p1 : (0 ≤ (j : Int)) = True := eq_true (by omega)
                have p2 : ((j : Int) < (L : Int)) = True := eq_true (by omega)
                clear hy hkd htk
                by_cases hc : tk = (t : Int) ∧ kd = 1
                · obtain ⟨hc1, hc2⟩ := hc
                  subst hc1
                  subst hc2
                  go_wp2
                  go_roundg (gk - 1)
                  case measure => have := HKJ.out; omega
                  case rel => exact ⟨j + 1, (j : Int), by rw [show ((j : Int) + 1) = ((j + 1 : Nat) : Int) by omega], rfl, ⟨by have := HKJ.out; omega, by omega, HLB.out.hit, HBJ.out⟩⟩
                · have HMS := Aside0.mk (HLB.out.miss HY.out.1 (by rw [HY.out.2.1, HY.out.2.2]; exact hc))
                  have HCC := Aside0.mk hc
                  clear hc
                  by_cases hc1 : tk = (t : Int)
                  · have r1 : (kd == 1) = false := beq_eq_false_iff_ne.2 (fun h => HCC.out ⟨hc1, h⟩)
                    subst hc1
                    go_wp2
                    go_roundg (gk - 1)
                    case measure => have := HKJ.out; omega
                    case rel => exact ⟨j + 1, b, by rw [show ((j : Int) + 1) = ((j + 1 : Nat) : Int) by omega], rfl, ⟨by have := HKJ.out; omega, by omega, HMS.out, HBJ.out⟩⟩
                  · have r1 : (tk == (t : Int)) = false := beq_eq_false_iff_ne.2 hc1
                    go_wp2
                    go_roundg (gk - 1)
                    case measure => have := HKJ.out; omega
                    case rel => exact ⟨j + 1, b, by rw [show ((j : Int) + 1) = ((j + 1 : Nat) : Int) by omega], rfl, ⟨by have := HKJ.out; omega, by omega, HMS.out, HBJ.out⟩⟩
              · obtain rfl : j = L := by omega
                have p2 : ((j : Int) < (j : Int)) = False := eq_false (by omega)
                go_wp2
                go_meet
                exact ⟨b, rfl, ⟨HLB.out, HBJ.out⟩⟩
          case rest =>
            obtain ⟨b, rfl, hA⟩ := hcut
            have HLB := Aside0.mk hA.out.1
            have HBC := Aside0.mk hA.out.2
            clear hA HB6
            go_upto_block 6 with (go_at_call 16; go_loud (refine (Edges_calls S5 g K5 e5 t _ (HE5.out.keep HBC.out) HI.out.inv HTN.out).mono ?_); rintro en w7 ⟨AE, cE, rfl, hri, hb⟩; have HRI := Aside0.mk hri; have HB7 := Aside0.mk (below_step HBC.out hb); clear hri hb)
            obtain ⟨m, hm⟩ : ∃ m, (e5.gr.L false t).length = m := ⟨_, rfl⟩
            have HM := Aside0.mk hm
            have hm12 : m ≤ 64 := by rw [← hm]; exact Nat.le_trans (HI.out.inv.gr.len false (by rw [HI.out.inv.gN]; exact HTN.out)) HI.out.inv.gr.N64
            rw [hm]
            clear hm
            go_wp2
            go_loopg [15] (m + 1) (fun kq v15 wr => ∃ k : Nat, v15 = .int .i64 (k : Int) ∧ Aside0 (kq + k = m + 1 ∧ k ≤ m ∧ Below w7.heap.size w7 wr))
            case atStart => exact ⟨0, rfl, ⟨by omega, by omega, by first | exact Below.refl _ _ | exact pw_below_drewN (Below.refl _ _) 1⟩⟩
            case round =>
              obtain ⟨k, rfl, hA⟩ := hrel
              obtain ⟨hk, hkm, hb⟩ := hA.out
              have HKK := Aside0.mk hk
              have HBK := Aside0.mk hb
              clear hA hk hb
              by_cases hkl : k < m
              · obtain ⟨ad, rfl, cd⟩ := RI.at_ (ReadsOf.below HRI.out HBK.out) k (by rw [HM.out]; exact hkl)
                obtain ⟨d, hd, hdN, hd5, hbef⟩ := HI.out.all hlt HST.out (k := k) (by rw [HM.out]; exact hkl)
                rw [hd] at cd
                have HD := Aside0.mk (And.intro hdN (And.intro hd5 hbef))
                have p1 : (0 ≤ (k : Int)) = True := eq_true (by omega)
                have p2 : ((k : Int) < (m : Int)) = True := eq_true (by omega)
                have HCD := Aside0.mk cd
                clear hd hdN hd5 hbef cd
                obtain ⟨wk, rfl⟩ : ∃ wk : World, wk = wr := ⟨_, rfl⟩
                obtain ⟨gkk, rfl⟩ : ∃ gkk : Nat, gkk = gk := ⟨_, rfl⟩
                go_upto_block 8 with (fail)
                go_cut [16] (fun v16 wc4 => v16 = .bool true ∧ Aside0 (Below wk.heap.size wk wc4))
                case first =>
                  go_wp2
                  go_loopg [16, 17] (L + 2) (fun kq v16 v17 wr => ∃ (i : Nat) (q : Bool), v17 = .int .i64 (i : Int) ∧ v16 = .bool q ∧ Aside0 (kq + i = L + 2 ∧ i ≤ L ∧ DoneB e5.log (d : Int) i q ∧ Below wk.heap.size wk wr))
                  case atStart => exact ⟨0, false, rfl, rfl, ⟨by omega, by omega, DoneB.zero _ _ _, by first | exact Below.refl _ _ | exact pw_below_drewN (Below.refl _ _) 1⟩⟩
                  case round =>
                    obtain ⟨i, q, rfl, rfl, hA⟩ := hrel
                    obtain ⟨hk, hi, hdb, hb⟩ := hA.out
                    have HKI := Aside0.mk hk
                    have HDB := Aside0.mk hdb
                    have HBI := Aside0.mk hb
                    clear hA hk hdb hb
                    have hbL : b < (L : Int) := HLB.out.2.1
                    by_cases hib : (i : Int) < b
                    · have r0 : ((i : Int) < b) = True := eq_true hib
                      obtain ⟨ade, y, rfl, hy, y0, y1, -, -⟩ := (HEV.out.below (below_step HB7.out (below_step HBK.out HBI.out))).at_ i (by rw [HLL.out]; omega)
                      obtain ⟨kd, hkd⟩ : ∃ kd, y.kind = kd := ⟨_, rfl⟩
                      obtain ⟨tk, htk⟩ : ∃ tk, y.task = tk := ⟨_, rfl⟩
                      rw [hkd] at y0
                      rw [htk] at y1
                      have HY := Aside0.mk (And.intro hy (And.intro hkd htk))
                      have cd := pw_cell_below HBI.out HCD.out
                      have s1 : (0 ≤ (i : Int)) = True := eq_true (by omega)
                      have s2 : ((i : Int) < (L : Int)) = True := eq_true (by omega)
                      clear hy hkd htk
                      have HNEXT := Aside0.mk (show ∀ q', DoneB e5.log (d : Int) (i + 1) q' → ∀ w9 : World, Below wr.heap.size wr w9 → ∃ (i' : Nat) (q : Bool), Value.int .i64 ((i : Int) + 1) = .int .i64 (i' : Int) ∧ Value.bool q' = .bool q ∧ Aside0 ((gk - 1) + i' = L + 2 ∧ i' ≤ L ∧ DoneB e5.log (d : Int) i' q ∧ Below wk.heap.size wk w9) from fun q' h1 w9 h2 => ⟨i + 1, q', by rw [show ((i : Int) + 1) = ((i + 1 : Nat) : Int) by omega], rfl, ⟨by have := HKI.out; omega, by omega, h1, below_step HBI.out h2⟩⟩)
                      rcases q with _ | _
                      · by_cases hc : tk = (d : Int) ∧ kd = 2
                        · obtain ⟨hc1, hc2⟩ := hc
                          subst hc1
                          subst hc2
                          go_upto_region 29 with (fail)
                          refine Qt.wp_region_quiet_tail 21 (by kernel_rfl) (by kernel_rfl) ?_
                          simp only [List.take_succ_cons, List.take_zero, List.drop_succ_cons, List.drop_zero]
                          repeat (go_big_quiet_step ((fail)))
                          refine wpQuiet_nil ?_
                          intro w9 hw9
                          have HB9 := Aside0.mk (show Below wr.heap.size wr w9 from by obtain ⟨m, rfl⟩ := hw9; exact pw_below_drewN (Below.refl _ _) m)
                          clear hw9
                          go_wp2
                          go_roundg (gk - 1)
                          case measure => have := HKI.out; omega
                          case rel => exact HNEXT.out _ DoneB.yes _ HB9.out
                        · have HMS := Aside0.mk (HDB.out.miss HY.out.1 (by rw [HY.out.2.1, HY.out.2.2]; exact hc))
                          have HCC := Aside0.mk hc
                          clear hc
                          by_cases hc1 : tk = (d : Int)
                          · have r1 : (kd == 2) = false := beq_eq_false_iff_ne.2 (fun h => HCC.out ⟨hc1, h⟩)
                            subst hc1
                            go_upto_region 29 with (fail)
                            refine Qt.wp_region_quiet_tail 21 (by kernel_rfl) (by kernel_rfl) ?_
                            simp only [List.take_succ_cons, List.take_zero, List.drop_succ_cons, List.drop_zero]
                            repeat (go_big_quiet_step ((fail)))
                            refine wpQuiet_nil ?_
                            intro w9 hw9
                            have HB9 := Aside0.mk (show Below wr.heap.size wr w9 from by obtain ⟨m, rfl⟩ := hw9; exact pw_below_drewN (Below.refl _ _) m)
                            clear hw9
                            go_wp2
                            go_roundg (gk - 1)
                            case measure => have := HKI.out; omega
                            case rel => exact HNEXT.out _ HMS.out _ HB9.out
                          · have r1 : (tk == (d : Int)) = false := beq_eq_false_iff_ne.2 hc1
                            go_upto_region 29 with (fail)
                            refine Qt.wp_region_quiet_tail 21 (by kernel_rfl) (by kernel_rfl) ?_
                            simp only [List.take_succ_cons, List.take_zero, List.drop_succ_cons, List.drop_zero]
                            repeat (go_big_quiet_step ((fail)))
                            refine wpQuiet_nil ?_
                            intro w9 hw9
                            have HB9 := Aside0.mk (show Below wr.heap.size wr w9 from by obtain ⟨m, rfl⟩ := hw9; exact pw_below_drewN (Below.refl _ _) m)
                            clear hw9
                            go_wp2
                            go_roundg (gk - 1)
                            case measure => have := HKI.out; omega
                            case rel => exact HNEXT.out _ HMS.out _ HB9.out
                      · go_upto_region 29 with (fail)
                        refine Qt.wp_region_quiet_tail 21 (by kernel_rfl) (by kernel_rfl) ?_
                        simp only [List.take_succ_cons, List.take_zero, List.drop_succ_cons, List.drop_zero]
                        repeat (go_big_quiet_step ((fail)))
                        refine wpQuiet_nil ?_
                        intro w9 hw9
                        have HB9 := Aside0.mk (show Below wr.heap.size wr w9 from by obtain ⟨m, rfl⟩ := hw9; exact pw_below_drewN (Below.refl _ _) m)
                        clear hw9
                        go_wp2
                        go_roundg (gk - 1)
                        case measure => have := HKI.out; omega
                        case rel => exact HNEXT.out _ DoneB.yes _ HB9.out
                    · have r0 : ((i : Int) < b) = False := eq_false hib
                      have hq : q = true := HD.out.2.2.done (by rw [HLL.out]; exact HLB.out) HDB.out (by omega)
                      subst hq
                      go_wp2
                      go_meet
                      exact ⟨rfl, ⟨HBI.out⟩⟩
                case rest =>
                  obtain ⟨rfl, hA⟩ := hcut
                  have HB4 := Aside0.mk hA.out
                  clear hA
                  have cd := pw_cell_below HB4.out HCD.out
                  have HEd := Aside0.mk (HE5.out.keep (below_step HB7.out (below_step HBK.out HB4.out)))
                  go_wp2_with (go_at_call 15; go_loud (refine (EState_calls S5 g K5 e5 d _ HEd.out HI.out.inv.N.2 (by rw [HI.out.N]; exact HD.out.1)).mono ?_); rintro en w8 ⟨rfl, hb⟩; rw [HD.out.2.1]; have HB8 := Aside0.mk (below_step HBK.out (below_step HB4.out hb)); clear hb)
                  go_roundg (gkk - 1)
                  case measure => have := HKK.out; omega
                  case rel => exact ⟨k + 1, by rw [show ((k : Int) + 1) = ((k + 1 : Nat) : Int) by omega], ⟨by have := HKK.out; omega, by omega, HB8.out⟩⟩
              · obtain rfl : k = m := by omega
                have p2 : ((k : Int) < (k : Int)) = False := eq_false (by omega)
                have HB3 := Aside0.mk (below_step HB7.out HBK.out)
                go_wp2
                go_roundg (gt - 1)
                case measure => have := HKT.out; omega
                case rel => exact ⟨t + 1, by rw [show ((t : Int) + 1) = ((t + 1 : Nat) : Int) by omega], ⟨by have := HKT.out; omega, by omega, HB3.out⟩⟩
        · have r5 : (st == 5) = false := beq_eq_false_iff_ne.2 h5
          go_wp2_with (go_at_call 15; go_loud (refine (EState_calls S5 g K5 e5 t _ (HE5.out.keep HB.out) HI.out.inv.N.2 HTN.out).mono ?_); rintro en w6 ⟨rfl, hb⟩; rw [HST.out]; have HB6 := Aside0.mk (below_step HB.out hb); clear hb)
          go_roundg (gk - 1)
          case measure => have := HKT.out; omega
          case rel => exact ⟨t + 1, by rw [show ((t : Int) + 1) = ((t + 1 : Nat) : Int) by omega], ⟨by have := HKT.out; omega, by omega, HB6.out⟩⟩
      · obtain rfl : t = N := by omega
        have q1 : ((t : Int) < (t : Int)) = False := eq_false (by omega)
        go_wp2
        go_ret
        exact ⟨rfl, below_step HBL.out HB.out⟩
end Go.Proofs.YtbpoapfkeinjnaaGreatDoor.Ld
namespace Go.Proofs.YtbpoapfkeinjnaaGreatDoor.topWaits
open Go.ChangeShapes Go.WideShapes Go.ChangeAt Go.RowKit Go.Proofs.YtbpoapfkeinjnaaGreatDoor.Open Go.Proofs.YtbpoapfkeinjnaaGreatDoor.Ld Go.Proofs.YtbpoapfkeinjnaaGreatDoorW.PrintWords
open Go.ChangeMaps (open_string shut_string)
set_option linter.unusedVariables false
theorem own : ownKnob Tryz.prog.godebug = none := by kernel_rfl
theorem laidOut : laidOutB Tryz.prog = true := by kernel_rfl
def IsRow (k : IntKind) (w : World) (a : Option Addr) (len cap : Nat) (zs : List Int) : Prop :=
  (a = none ∧ len = 0 ∧ cap = 0 ∧ zs = []) ∨
  ∃ x, a = some x ∧ len ≤ cap ∧ cap ≤ maxLen ∧ zs.length = cap ∧ (∀ i, i < zs.length → w.cell? (x.add i) = some (.int k (zs.getD i 0))) ∧ ∀ n ∈ zs, (Lit.int k n).wf = true
set_option maxRecDepth 100000 in
theorem fields26 : ∀ (j : Nat) (f : Field), (match Tryz.prog.underlying 26 with | some (.struct fs) => fs[j]? | _ => none) = some f → Tryz.prog.underlying f.type = some (.int .i64) := by
  intro j f h
  rw [Tryz.underlying26] at h
  match j, h with
  | 0, h => simp at h; subst h; exact Tryz.underlying3
  | 1, h => simp at h; subst h; exact Tryz.underlying3
  | 2, h => simp at h; subst h; exact Tryz.underlying3
  | 3, h => simp at h; subst h; exact Tryz.underlying3
  | 4, h => simp at h; subst h; exact Tryz.underlying3
  | 5, h => simp at h; subst h; exact Tryz.underlying3
  | 6, h => simp at h; subst h; exact Tryz.underlying3
  | 7, h => simp at h; subst h; exact Tryz.underlying3
  | 8, h => simp at h; subst h; exact Tryz.underlying3
  | 9, h => simp at h; subst h; exact Tryz.underlying3
  | _ + 10, h => simp at h
set_option maxRecDepth 100000 in
theorem fields29 : ∀ (j : Nat) (f : Field), (match Tryz.prog.underlying 29 with | some (.struct fs) => fs[j]? | _ => none) = some f → Tryz.prog.underlying f.type = some (.int .i64) := by
  intro j f h
  rw [Tryz.underlying29] at h
  match j, h with
  | 0, h => simp at h; subst h; exact Tryz.underlying3
  | 1, h => simp at h; subst h; exact Tryz.underlying3
  | _ + 2, h => simp at h
theorem rows29 {W : World} {a : Option Addr} {len cap : Nat} (h : (a = none ∧ len = 0 ∧ cap = 0) ∨ ∃ ad, a = some ad ∧ len ≤ cap ∧ cap ≤ maxLen ∧ ∀ i, i < len → ∀ j, j < 2 → ∃ x, W.cell? (ad.add (i * 2 + j)) = some (.int .i64 x) ∧ (Lit.int .i64 x).wf = true) :
    ∃ l : List S29, len = l.length ∧ Kd.C k29 W a l.length l ∧ l.length ≤ cap ∧ l.length ≤ maxLen ∧ ∀ p ∈ l, (Lit.int .i64 p.f0).wf = true ∧ (Lit.int .i64 p.f1).wf = true := by
  rcases h with ⟨rfl, rfl, rfl⟩ | ⟨ad, rfl, hl, hm, hc⟩
  · exact ⟨[], rfl, ⟨rfl, by simp, fun h => by simp at h⟩, Nat.le_refl _, by simp, fun p hp => by simp at hp⟩
  · have hat : ∀ i, i < len → ∀ j, j < 2 → W.cell? (ad.add (i * 2 + j)) = some (.int .i64 (cellInt W (ad.add (i * 2 + j)))) ∧ (Lit.int .i64 (cellInt W (ad.add (i * 2 + j)))).wf = true := by
      intro i hi j hj
      obtain ⟨x, hx, hw⟩ := hc i hi j hj
      rw [cellInt_of hx]
      exact ⟨hx, hw⟩
    obtain ⟨l, hl2⟩ : ∃ l : List S29, l = (List.range len).map fun i => (⟨cellInt W (ad.add (i * 2 + 0)), cellInt W (ad.add (i * 2 + 1))⟩ : S29) := ⟨_, rfl⟩
    have hlen : l.length = len := by rw [hl2]; simp
    have hget : ∀ j p, l[j]? = some p → j < len ∧ p = (⟨cellInt W (ad.add (j * 2 + 0)), cellInt W (ad.add (j * 2 + 1))⟩ : S29) := by
      intro j p hj
      have hlt : j < l.length := (List.getElem?_eq_some_iff.1 hj).1
      rw [hl2, List.getElem?_map, List.getElem?_range (by omega)] at hj
      simp at hj
      exact ⟨by omega, hj.symm⟩
    refine ⟨l, hlen.symm, ?_, by omega, by omega, ?_⟩
    · refine ⟨rfl, by unfold maxLen at hm; omega, fun _ => ⟨ad, rfl, fun j p hj => ⟨[.int .i64 p.f0, .int .i64 p.f1], rfl, k29_mk W p, fun i u hu => ?_⟩⟩⟩
      obtain ⟨hlt, rfl⟩ := hget j p hj
      show W.cell? (ad.add (j * 2 + i)) = some u
      match i, hu with
      | 0, hu => simp at hu; subst hu; exact (hat j hlt 0 (by omega)).1
      | 1, hu => simp at hu; subst hu; exact (hat j hlt 1 (by omega)).1
      | _ + 2, hu => simp at hu
    · intro p hp
      obtain ⟨j, hj, rfl⟩ := List.getElem_of_mem hp
      obtain ⟨hlt, e⟩ := hget j _ (List.getElem?_eq_getElem hj)
      rw [e]
      exact ⟨(hat j hlt 0 (by omega)).2, (hat j hlt 1 (by omega)).2⟩
set_option maxRecDepth 100000 in
theorem fields39 : ∀ (j : Nat) (f : Field), (match Tryz.prog.underlying 39 with | some (.struct fs) => fs[j]? | _ => none) = some f → Tryz.prog.underlying f.type = some (.int .i64) := by
  intro j f h
  rw [Tryz.underlying39] at h
  match j, h with
  | 0, h => simp at h; subst h; exact Tryz.underlying3
  | 1, h => simp at h; subst h; exact Tryz.underlying3
  | 2, h => simp at h; subst h; exact Tryz.underlying3
  | 3, h => simp at h; subst h; exact Tryz.underlying3
  | 4, h => simp at h; subst h; exact Tryz.underlying3
  | _ + 5, h => simp at h
theorem rows39 {W : World} {a : Option Addr} {len cap : Nat} (h : (a = none ∧ len = 0 ∧ cap = 0) ∨ ∃ ad, a = some ad ∧ len ≤ cap ∧ cap ≤ maxLen ∧ ∀ i, i < len → ∀ j, j < 5 → ∃ x, W.cell? (ad.add (i * 5 + j)) = some (.int .i64 x) ∧ (Lit.int .i64 x).wf = true) :
    ∃ l : List S39, len = l.length ∧ Kd.C k39 W a l.length l ∧ l.length ≤ cap ∧ l.length ≤ maxLen ∧ ∀ p ∈ l, (Lit.int .i64 p.f0).wf = true ∧ (Lit.int .i64 p.f1).wf = true ∧ (Lit.int .i64 p.f2).wf = true ∧ (Lit.int .i64 p.f3).wf = true ∧ (Lit.int .i64 p.f4).wf = true := by
  rcases h with ⟨rfl, rfl, rfl⟩ | ⟨ad, rfl, hl, hm, hc⟩
  · exact ⟨[], rfl, ⟨rfl, by simp, fun h => by simp at h⟩, Nat.le_refl _, by simp, fun p hp => by simp at hp⟩
  · have hat : ∀ i, i < len → ∀ j, j < 5 → W.cell? (ad.add (i * 5 + j)) = some (.int .i64 (cellInt W (ad.add (i * 5 + j)))) ∧ (Lit.int .i64 (cellInt W (ad.add (i * 5 + j)))).wf = true := by
      intro i hi j hj
      obtain ⟨x, hx, hw⟩ := hc i hi j hj
      rw [cellInt_of hx]
      exact ⟨hx, hw⟩
    obtain ⟨l, hl2⟩ : ∃ l : List S39, l = (List.range len).map fun i => (⟨cellInt W (ad.add (i * 5 + 0)), cellInt W (ad.add (i * 5 + 1)), cellInt W (ad.add (i * 5 + 2)), cellInt W (ad.add (i * 5 + 3)), cellInt W (ad.add (i * 5 + 4))⟩ : S39) := ⟨_, rfl⟩
    have hlen : l.length = len := by rw [hl2]; simp
    have hget : ∀ j p, l[j]? = some p → j < len ∧ p = (⟨cellInt W (ad.add (j * 5 + 0)), cellInt W (ad.add (j * 5 + 1)), cellInt W (ad.add (j * 5 + 2)), cellInt W (ad.add (j * 5 + 3)), cellInt W (ad.add (j * 5 + 4))⟩ : S39) := by
      intro j p hj
      have hlt : j < l.length := (List.getElem?_eq_some_iff.1 hj).1
      rw [hl2, List.getElem?_map, List.getElem?_range (by omega)] at hj
      simp at hj
      exact ⟨by omega, hj.symm⟩
    refine ⟨l, hlen.symm, ?_, by omega, by omega, ?_⟩
    · refine ⟨rfl, by unfold maxLen at hm; omega, fun _ => ⟨ad, rfl, fun j p hj => ⟨[.int .i64 p.f0, .int .i64 p.f1, .int .i64 p.f2, .int .i64 p.f3, .int .i64 p.f4], rfl, k39_mk W p, fun i u hu => ?_⟩⟩⟩
      obtain ⟨hlt, rfl⟩ := hget j p hj
      show W.cell? (ad.add (j * 5 + i)) = some u
      match i, hu with
      | 0, hu => simp at hu; subst hu; exact (hat j hlt 0 (by omega)).1
      | 1, hu => simp at hu; subst hu; exact (hat j hlt 1 (by omega)).1
      | 2, hu => simp at hu; subst hu; exact (hat j hlt 2 (by omega)).1
      | 3, hu => simp at hu; subst hu; exact (hat j hlt 3 (by omega)).1
      | 4, hu => simp at hu; subst hu; exact (hat j hlt 4 (by omega)).1
      | _ + 5, hu => simp at hu
    · intro p hp
      obtain ⟨j, hj, rfl⟩ := List.getElem_of_mem hp
      obtain ⟨hlt, e⟩ := hget j _ (List.getElem?_eq_getElem hj)
      rw [e]
      exact ⟨(hat j hlt 0 (by omega)).2, (hat j hlt 1 (by omega)).2, (hat j hlt 2 (by omega)).2, (hat j hlt 3 (by omega)).2, (hat j hlt 4 (by omega)).2⟩
theorem list10 : ∀ (xs : List Int), xs.length = 10 → ∃ y0 y1 y2 y3 y4 y5 y6 y7 y8 y9, xs = [y0, y1, y2, y3, y4, y5, y6, y7, y8, y9]
  | [y0, y1, y2, y3, y4, y5, y6, y7, y8, y9], _ => ⟨_, _, _, _, _, _, _, _, _, _, rfl⟩
set_option maxRecDepth 100000 in
theorem lifted (os : Os) (started : os.Started) (H : Type) (enc : TypeId × Value → H) :
    ReturnsInHanded {} Tryz.checked os 4 .any (fun w args => (Rows.topWaitsSpec.pre enc Tryz.prog Tryz.f4 [] false w args ∧ laidMetH Tryz.prog laidV w) ∧ sizedMet enc Tryz.prog Tryz.f4 (OpenSpec.ofChange Rows.topWaitsSpec) false w args) (Rows.topWaitsSpec.post enc Tryz.prog Tryz.f4 false true false false) := by
  refine returnsInHanded_of_change_and (C := Tryz.checked) (X := fun w _ => laidMetH Tryz.prog laidV w) (fun _ _ _ hh h => h.of_heap hh) own started (by kernel_rfl) Tryz.func4
    (ChangeSpec.witness_shaped (enc := enc) (C := Tryz.checked) (os := os) (X := fun w _ => laidMetH Tryz.prog laidV w) false (World.doorLaid Tryz.prog 34 os) #[.agg #[.int .i64 0, .int .i64 0, .int .i64 0, .int .i64 0, .int .i64 0, .int .i64 0, .int .i64 0, .int .i64 0, .int .i64 0, .int .i64 0], .slice none 0 0, .slice none 0 0] 8 rfl (World.shaped_of_RefB (by kernel_rfl) (by kernel_rfl)) (by kernel_rfl) (by kernel_rfl) (by kernel_rfl) (door_met os _)) ?_
  intro W base args ds gs before hval0 hW hcnd hsz0 hL _
  have hsz : (DataW.weightsEach Tryz.prog (Tryz.f4.params.toList ++ Rows.topWaitsSpec.plain.varTypes Tryz.prog) (ds ++ gs)).all (· ≤ reachBytes) = true := hsz0
  have hval : ∀ (j : Nat) t v, Tryz.f4.params[j]? = some t → args[j]? = some v → Value.okWide Tryz.prog W .any base t v := hval0
  have hW' := hW
  obtain ⟨p, q, hA0, hV, rfl, hfz, hnd⟩ := hW
  have hA : DataW.TrodAll enc Tryz.prog W 0 (fun _ => true) true Tryz.f4.params.toList args.toList ds p := hA0
  rw [Tryz.params4] at hA hval hsz
  obtain ⟨v0, vs0, d0, ds0, p0, q0, hargs, rfl, rfl, h0, r0⟩ := trodAll_cons hA
  obtain ⟨v1, vs1, d1, ds1, p1, q1, rfl, rfl, rfl, h1, r1⟩ := trodAll_cons r0
  obtain ⟨v2, vs2, d2, ds2, p2, q2, rfl, rfl, rfl, h2, r2⟩ := trodAll_cons r1
  obtain ⟨rfl, rfl, rfl⟩ := trodAll_nil r2
  obtain rfl : args = #[v0, v1, v2] := by cases args; simp_all
  obtain ⟨rfl, rfl⟩ := trodVars_none hV
  have u0 := (hval 0 26 v0 rfl rfl)
  have k0 := h0
  have lt0 : ∀ x ∈ p0, x.block < W.heap.size := by obtain ⟨m, hm⟩ := k0; exact DataW.trod_lt m _ _ _ hm
  obtain ⟨xs0, hn0, rfl, w0⟩ := open_agg Tryz.underlying26 (by kernel_rfl) (by kernel_rfl) (by have z := fields26; rw [Tryz.underlying26] at z; exact z) u0 h0
  obtain ⟨x0_0, x0_1, x0_2, x0_3, x0_4, x0_5, x0_6, x0_7, x0_8, x0_9, rfl⟩ := list10 xs0 hn0
  clear hn0
  obtain ⟨A1, len1, c1, rfl⟩ := okWide_slice Tryz.underlying27 (hval 1 27 v1 rfl rfl)
  have k1 := h1
  have lt1 : ∀ x ∈ p1, x.block < W.heap.size := by obtain ⟨m, hm⟩ := k1; exact DataW.trod_lt m _ _ _ hm
  obtain ⟨l1, rfl, hr1, hc1, hm1, w1⟩ := rows29 (open_structs Tryz.underlying27 Tryz.underlying29 (by kernel_rfl) (by kernel_rfl) (by have z := fields29; rw [Tryz.underlying29] at z; exact z) h1)
  obtain ⟨A2, len2, c2, rfl⟩ := okWide_slice Tryz.underlying44 (hval 2 44 v2 rfl rfl)
  have k2 := h2
  have lt2 : ∀ x ∈ p2, x.block < W.heap.size := by obtain ⟨m, hm⟩ := k2; exact DataW.trod_lt m _ _ _ hm
  obtain ⟨l2, rfl, hr2, hc2, hm2, w2⟩ := rows39 (open_structs Tryz.underlying44 Tryz.underlying39 (by kernel_rfl) (by kernel_rfl) (by have z := fields39; rw [Tryz.underlying39] at z; exact z) h2)
  clear hA0 hval0 hsz0 hsz
  obtain ⟨bm, hv⟩ := vars_of hL
  refine (TopWaits_calls bm ⟨x0_0, x0_1, x0_2, x0_3, x0_4, x0_5, x0_6, x0_7, x0_8, x0_9⟩ A1 l1.length c1 l1 A2 l2.length c2 l2 W hv hr1 (by unfold maxLen at hm1; omega) hr2 (by unfold maxLen at hm2; omega) (fun i hi => by rw [List.getD_eq_getElem?_getD, List.getElem?_eq_getElem hi]; exact (w2 _ (List.getElem_mem _)).1)).mono fun e W' ⟨he, bel⟩ => ?_
  subst he
  exact ⟨_, rfl, _, _, _, [], _, [], hW', trodAll_mk1 (shut_bool Tryz.underlying4 _), (trodAll_cons_mk (Below.trod laidOut (by kernel_rfl) (of_decide_eq_true (by kernel_rfl)) k0 bel lt0) (trodAll_cons_mk (Below.trod laidOut (by kernel_rfl) (of_decide_eq_true (by kernel_rfl)) k1 bel lt1) (trodAll_cons_mk (Below.trod laidOut (by kernel_rfl) (of_decide_eq_true (by kernel_rfl)) k2 bel lt2) trodAll_mk0))), rfl, bel.frame _, fun h => by cases h⟩
theorem over : Rows.topWaitsRow.holds Tryz.pinned (OpenSpec.ofChange Rows.topWaitsSpec) :=
  OpenClaim.holds_of_wide 4 Tryz.f4 rfl rfl rfl rfl rfl rfl rfl ⟨rfl, rfl, rfl, rfl, rfl⟩ rfl rfl rfl rfl rfl (by kernel_rfl) Tryz.func4 (by kernel_rfl)
    (of_decide_eq_true (by kernel_rfl)) (by unfold Func.isWrapper; first | (rw [if_pos (by decide +kernel)]; kernel_rfl) | (rw [if_neg (by decide +kernel)]; exact ⟨rfl, rfl⟩))
    (fun os started H enc _ => lifted os started H enc)
theorem proved : Rows.TopWaitsSaid := over
end Go.Proofs.YtbpoapfkeinjnaaGreatDoor.topWaits
namespace Go.Proofs.YtbpoapfkeinjnaaGreatDoor
theorem topWaits_holds : Rows.TopWaitsSaid := topWaits.proved
end Go.Proofs.YtbpoapfkeinjnaaGreatDoor
