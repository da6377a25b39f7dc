/- The engine of the yard and what it leans on, part 31. -/
import Derived.Test.YtbpoapfkeinjnaaGreatDoorK30
namespace Go.Proofs.YtbpoapfkeinjnaaGreatDoor.Ld
open Go.RowKit Go.Proofs.YtbpoapfkeinjnaaGreatDoorW.PrintWords Go.Proofs.YtbpoapfkeinjnaaGreatDoorW.PrintLast Go.Proofs.YtbpoapfkeinjnaaGreatDoorW.PrintMore
set_option linter.unusedVariables false
set_option linter.unusedSimpArgs false
attribute [local go_sem] max2_int min2_int max_two min_two
theorem cells_grown {l : List (Addr × Value)} {w w' : World} {o : Option Nat} {n : Nat} (h : Cells l w) (hg : w.grownBy w' o) (hn : n ≤ w.heap.size) (hf : ∀ p, p ∈ l → p.1.block < n ∧ some p.1.block ≠ o) : Cells l w' := fun p hp =>
  (World.cell?_of_block (hg.block _ (Nat.lt_of_lt_of_le (hf p hp).1 hn) (hf p hp).2)).trans (h p hp)
theorem up_later {S : Nat → Prop} {w w4 W w9 : World} (hb : w.heap.size ≤ w4.heap.size) (hs : W.heap.size = w9.heap.size) (k : Nat) (h : up S w4 W k) : up S w w9 k := by
  rcases h with h | h
  · exact .inl h
  · exact .inr ⟨Nat.le_trans hb h.1, hs ▸ h.2⟩
theorem keep_u {w wa w6 wb : World} {v u v6 : Value} {n n' n6 : Nat} {xs xs' xs6 : List Value} (hv : w.ownsRow 0 3 1 v n xs) (hu : w.ownsRow 0 3 1 u n' xs') (hvu : ∀ k, v.ownBlock = some k → u.ownBlock ≠ some k)
    (ba : Below w.heap.size w wa) (k1 : Grew wa w6 v v6 n6 xs6) (bb : Below w6.heap.size w6 wb) : wb.ownsRow 0 3 1 u n' xs' := own_same hu fun k hk => by
  have := own_lt hu k hk
  have := ba.size
  have := k1.by_.size
  rw [bb.block k (by omega), k1.by_.block k (by omega) (fun e => hvu k e.symm hk), ba.block k (by omega)]
set_option maxHeartbeats 8000000 in
set_option maxRecDepth 100000 in
theorem GAdd_calls (S : Nat → Prop) (g : Nat) (G : Gr) (x y : Nat) (w : World) (H : GrAt S w g G) (hv : GrInv G) (hx : x < G.N) (hy : y < G.N) (hno : (G.T x).testBit y = false) (hln : ∀ b j, j < G.N → (G.L b j).length ≤ 64) :
    Calls Tryz.prog 114 #[.pointer (some ⟨g, 0, none⟩), .int .i64 (x : Int), .int .i64 (y : Int)] w fun e w' => e = .returned (.tuple #[.bool true, .int .i64 0]) ∧ (∃ nn : Int, GrAt (up S w w') w' g { addG G x y with n := nn }) ∧ Chg S w w' := by
  have HH := Aside0.mk H
  have HV0 := Aside0.mk hv
  have hN := hv.N64
  have hlt := hv.lt x hx
  have HNO := Aside0.mk hno
  have HLB := Aside0.mk hln
  have HXY := Aside0.mk (And.intro hx hy)
  have HAL := Aside0.mk (show ∀ i, i < 2 → ∃ z : Nat, ([(x : Int), (y : Int)] : List Int).getD i 0 = (z : Int) ∧ z < G.N from fun i hi => by
    rcases i with _ | _ | i
    · exact ⟨x, rfl, hx⟩
    · exact ⟨y, rfl, hy⟩
    · omega)
  have q1 : (0 ≤ (x : Int)) = True := eq_true (by omega)
  have q2 : ((x : Int) < (G.N : Int)) = True := eq_true (by omega)
  have q3 : (0 ≤ (y : Int)) = True := eq_true (by omega)
  have q4 : ((y : Int) < (G.N : Int)) = True := eq_true (by omega)
  have HY64 := Aside0.mk (show y < 64 by omega)
  obtain ⟨T, hT⟩ : ∃ T, G.T x = T := ⟨_, rfl⟩
  rw [hT] at hlt hno
  have HTL := Aside0.mk hlt
  have HTB := Aside0.mk hno
  have HTE := Aside0.mk hT
  clear H hv hT hlt hno hln hx hy
  go_enter Tryz.func114, Tryz.ntmps114
  go_upto_region 5 with (first
    | (go_at_call 67; go_loud (refine (there_calls S [(x : Int), (y : Int)] 2 2 g G _ _ (HH.out.keep (Keep.of_below (below_alloc (Below.refl _ w) _))) (by omega) rfl (by omega) HAL.out (ri_lit w [(x : Int), (y : Int)] (by simp))).mono ?_); rintro e w2 ⟨rfl, hd⟩; have HD := Aside0.mk (below_step (below_alloc (Below.refl _ w) _) hd); obtain ⟨vs, vt, rv, HP⟩ := HH.out.keep (Keep.of_below HD.out); obtain ⟨k, c, hA, cx, fx⟩ := HP.mask x HXY.out.1; rw [HTE.out] at cx; have c0 := (blk_cell HP.blk 2).trans rfl; rw [hA] at c0; clear hd hA HP)
    | (go_at_call 112; go_loud (refine (has_calls' T y _ HTL.out HY64.out).mono ?_); rintro e w3 ⟨rfl, hd⟩; rw [HTB.out]; have HD3 := Aside0.mk hd; clear hd cx fx c0))
  refine wp_region_any (by kernel_rfl) ?_
  obtain ⟨w4, hw4⟩ : ∃ w4 : World, w4 = { w3 with drawn := w3.drawn + 1 } := ⟨_, rfl⟩
  rw [← hw4]
  have HB4 := Aside0.mk (below_step (below_step HD.out HD3.out.below) (show Below w3.heap.size w3 w4 from hw4 ▸ pw_below_drewN (Below.refl _ w3) 1))
  clear hw4
  obtain ⟨vs, vt, rv, hp⟩ := HH.out.keep (Keep.of_below HB4.out)
  have HP := Aside0.mk hp
  obtain ⟨kf, cf, hf, rf, ff⟩ := hp.at_ false x HXY.out.1
  obtain ⟨kt, ct, ht, rt, ft⟩ := hp.at_ true y HXY.out.2
  obtain ⟨km, cm, hm, rm, fm⟩ := hp.mask x HXY.out.1
  rw [HTE.out] at rm
  have hrf := hp.rr false x HXY.out.1
  have hrt := hp.rr true y HXY.out.2
  obtain ⟨Af, cfx, hAf⟩ := hrf.slice
  obtain ⟨At, ctx, hAt⟩ := hrt.slice
  have HVU := Aside0.mk (show ∀ k, (rv false x).ownBlock = some k → (rv true y).ownBlock ≠ some k from hp.ap false x true y HXY.out.1 HXY.out.2 (by simp))
  obtain ⟨nf, hnf⟩ : ∃ nf, (G.L false x).length = nf := ⟨_, rfl⟩
  obtain ⟨nt, hnt⟩ : ∃ nt, (G.L true y).length = nt := ⟨_, rfl⟩
  have HLN := Aside0.mk (show nf ≤ 64 ∧ nt ≤ 64 from by rw [← hnf, ← hnt]; exact ⟨HLB.out _ _ HXY.out.1, HLB.out _ _ HXY.out.2⟩)
  have hgb := hp.blk
  have c0 := (blk_cell hgb 0).trans (show _ = some (vs false) from rfl)
  have c1 := (blk_cell hgb 1).trans (show _ = some (vs true) from rfl)
  have c2 := (blk_cell hgb 2).trans (show _ = some vt from rfl)
  have HBK := Aside0.mk hgb
  have of_ := hp.row false
  have ot_ := hp.row true
  have om_ := hp.rt
  have okf : (vs false).ownBlock = some kf := by rw [hf]; rfl
  have okt : (vs true).ownBlock = some kt := by rw [ht]; rfl
  have okm : vt.ownBlock = some km := by rw [hm]; rfl
  have HFB := Aside0.mk (show (kf < w4.heap.size ∧ ¬ ((rv false x).ownBlock = some kf ∨ (rv true y).ownBlock = some kf)) ∧ (kt < w4.heap.size ∧ ¬ ((rv false x).ownBlock = some kt ∨ (rv true y).ownBlock = some kt)) ∧ (km < w4.heap.size ∧ ¬ ((rv false x).ownBlock = some km ∨ (rv true y).ownBlock = some km)) ∧ (g < w4.heap.size ∧ ¬ ((rv false x).ownBlock = some g ∨ (rv true y).ownBlock = some g)) from by
    refine ⟨⟨own_lt of_.own kf okf, fun e => ?_⟩, ⟨own_lt ot_.own kt okt, fun e => ?_⟩, ⟨own_lt om_.own km okm, fun e => ?_⟩, ⟨blk_lt hgb, fun e => ?_⟩⟩
    · rcases e with e | e; exact own_apart of_.own hrf.own (by decide) kf okf e; exact own_apart of_.own hrt.own (by decide) kf okf e
    · rcases e with e | e; exact own_apart ot_.own hrf.own (by decide) kt okt e; exact own_apart ot_.own hrt.own (by decide) kt okt e
    · rcases e with e | e; exact own_apart om_.own hrf.own (by decide) km okm e; exact own_apart om_.own hrt.own (by decide) km okm e
    · rcases e with e | e; exact own_ne hrf.own hgb (by decide) e.symm; exact own_ne hrt.own hgb (by decide) e.symm)
  have hft : kf ≠ kt := fun e => hp.rne kf okf (e ▸ okt)
  have hfm : kf ≠ km := fun e => own_apart of_.own om_.own (by decide) kf okf (e ▸ okm)
  have htm : kt ≠ km := fun e => own_apart ot_.own om_.own (by decide) kt okt (e ▸ okm)
  have hgf : g ≠ kf := fun e => own_ne of_.own hgb (by decide) (by rw [okf, e])
  have hgt : g ≠ kt := fun e => own_ne ot_.own hgb (by decide) (by rw [okt, e])
  have hgm : g ≠ km := fun e => own_ne om_.own hgb (by decide) (by rw [okm, e])
  have HNE := Aside0.mk (show (kf = kt) = False ∧ (kt = kf) = False ∧ (kf = km) = False ∧ (km = kf) = False ∧ (kt = km) = False ∧ (km = kt) = False ∧ (g = kf) = False ∧ (kf = g) = False ∧ (g = kt) = False ∧ (kt = g) = False ∧ (g = km) = False ∧ (km = g) = False from ⟨eq_false hft, eq_false hft.symm, eq_false hfm, eq_false hfm.symm, eq_false htm, eq_false htm.symm, eq_false hgf, eq_false hgf.symm, eq_false hgt, eq_false hgt.symm, eq_false hgm, eq_false hgm.symm⟩)
  have HFZ := Aside0.mk (And.intro ff (And.intro ft fm))
  have HSH := Aside0.mk (And.intro hf (And.intro ht hm))
  have hV := hrf.own
  have hU := hrt.own
  rw [hnf] at hV
  rw [hnt] at hU
  rw [hAf] at hV rf
  rw [hAt] at hU rt
  rw [hnf] at hV rf
  rw [hnt] at hU rt
  have HV := Aside0.mk hV
  have HU := Aside0.mk hU
  rw [hAf, hAt, hnf, hnt] at HVU
  rw [hAf, hAt, hnf, hnt] at HFB
  have HEQ := Aside0.mk (show ∀ (W : World) (v6 v7 : Value), Grown2 w4 W (.slice Af nf cfx) (.slice At nt ctx) v6 v7 (nf + 1) (nt + 1) (ints (G.L false x) ++ [.int .i64 (y : Int)]) (ints (G.L true y) ++ [.int .i64 (x : Int)]) → Grown2 w4 W (rv false x) (rv true y) v6 v7 ((G.L false x).length + 1) ((G.L true y).length + 1) (ints (G.L false x) ++ [.int .i64 (y : Int)]) (ints (G.L true y) ++ [.int .i64 (x : Int)]) from fun W v6 v7 h => by rw [hAf, hAt, hnf, hnt]; exact h)
  rw [hf] at c0
  rw [ht] at c1
  rw [hm] at c2
  obtain ⟨CL, hCL⟩ : ∃ CL : List (Addr × Value), CL = [(⟨g, 0, none⟩, .slice (some ⟨kf, 0, none⟩) G.N cf), (⟨g, 1, none⟩, .slice (some ⟨kt, 0, none⟩) G.N ct), (⟨g, 2, none⟩, .slice (some ⟨km, 0, none⟩) G.N cm), (⟨kf, x, none⟩, .slice Af nf cfx), (⟨kt, y, none⟩, .slice At nt ctx), (⟨km, x, none⟩, .int .u64 (T : Int))] := ⟨_, rfl⟩
  have m1 : ∀ z : CW CL, z.w.cell? ⟨g, 0, none⟩ = some (.slice (some ⟨kf, 0, none⟩) G.N cf) := fun z => z.h.get 0 (by rw [hCL]; rfl)
  have m2 : ∀ z : CW CL, z.w.cell? ⟨g, 1, none⟩ = some (.slice (some ⟨kt, 0, none⟩) G.N ct) := fun z => z.h.get 1 (by rw [hCL]; rfl)
  have m3 : ∀ z : CW CL, z.w.cell? ⟨g, 2, none⟩ = some (.slice (some ⟨km, 0, none⟩) G.N cm) := fun z => z.h.get 2 (by rw [hCL]; rfl)
  have m4 : ∀ z : CW CL, z.w.cell? ⟨kf, x, none⟩ = some (.slice Af nf cfx) := fun z => z.h.get 3 (by rw [hCL]; rfl)
  have m5 : ∀ z : CW CL, z.w.cell? ⟨kt, y, none⟩ = some (.slice At nt ctx) := fun z => z.h.get 4 (by rw [hCL]; rfl)
  have m6 : ∀ z : CW CL, z.w.cell? ⟨km, x, none⟩ = some (.int .u64 (T : Int)) := fun z => z.h.get 5 (by rw [hCL]; rfl)
  have HCL := Aside0.mk (show CL[3]? = some (⟨kf, x, none⟩, .slice Af nf cfx) ∧ CL[4]? = some (⟨kt, y, none⟩, .slice At nt ctx) ∧ CL[5]? = some (⟨km, x, none⟩, .int .u64 (T : Int)) from by rw [hCL]; exact ⟨rfl, rfl, rfl⟩)
  have HS := Aside0.mk (show Cells CL w4 from hCL ▸ Cells.cons c0 (Cells.cons c1 (Cells.cons c2 (Cells.cons rf (Cells.cons rt (Cells.cons rm (Cells.nil _)))))))
  have HCF := Aside0.mk (show ∀ p, p ∈ CL → p.1.block < w4.heap.size ∧ some p.1.block ≠ (Value.slice Af nf cfx).ownBlock ∧ some p.1.block ≠ (Value.slice At nt ctx).ownBlock from fun p hp => by
    have hb := HFB.out
    have key : p.1.block = g ∨ p.1.block = kf ∨ p.1.block = kt ∨ p.1.block = km := by
      rw [hCL] at hp
      simp only [List.mem_cons, List.not_mem_nil, or_false] at hp
      rcases hp with rfl | rfl | rfl | rfl | rfl | rfl <;> simp
    rcases key with e | e | e | e <;> rw [e]
    · exact ⟨hb.2.2.2.1, fun e => hb.2.2.2.2 (.inl e.symm), fun e => hb.2.2.2.2 (.inr e.symm)⟩
    · exact ⟨hb.1.1, fun e => hb.1.2 (.inl e.symm), fun e => hb.1.2 (.inr e.symm)⟩
    · exact ⟨hb.2.1.1, fun e => hb.2.1.2 (.inl e.symm), fun e => hb.2.1.2 (.inr e.symm)⟩
    · exact ⟨hb.2.2.1.1, fun e => hb.2.2.1.2 (.inl e.symm), fun e => hb.2.2.1.2 (.inr e.symm)⟩)
  have HSZ := Aside0.mk (Nat.le_refl w4.heap.size)
  have hne : Nonempty (CW CL) := ⟨⟨_, HS.out⟩⟩
  clear hCL hp hf ht hm hAf hAt hnf hnt c0 c1 c2 rf rt rm ff ft fm hgb of_ ot_ om_ okf okt okm hft hfm htm hgf hgt hgm hV hU hrf hrt
  refine wpAny_take (i := 9) (v := .int .i64 (y : Int)) rfl (by kernel_rfl) (by kernel_rfl) (by kernel_rfl) (fun _ _ _ h => h) (Or.inl ⟨rfl, fun w => rfl⟩) ?_
  refine wpAny_take (i := 14) (v := .int .i64 (x : Int)) rfl (by kernel_rfl) (by kernel_rfl) (by kernel_rfl) (fun _ _ _ h => h) (Or.inl ⟨rfl, fun w => rfl⟩) ?_
  refine Qt.wpAny_of_T (S := fun w' => ∃ x : CW CL, w' = x.w) (n := 44) _ _ _ _ ?_
  refine Qt.wpAnyT_batchL 11 (fun l => l.take 9 ++ (l.drop 10).take 4 ++ (l.drop 15).take 8 ++ (l.drop 25).take 8 ++ (l.drop 35).take 8) (List.range 9 ++ (List.range 4).map (· + 10) ++ (List.range 8).map (· + 15) ++ (List.range 8).map (· + 25) ++ (List.range 8).map (· + 35)) rfl (fun _ _ d _ _ h => by cases d <;> exact h) ⟨CW.mk _ HS.out, rfl⟩ rfl (by kernel_rfl) (Qt.held_start (by kernel_rfl)) (by kernel_rfl) ?_
  simp only [List.take_succ_cons, List.take_zero, List.drop_succ_cons, List.drop_zero, List.cons_append, List.nil_append, Act.put, List.getElem_toArray, List.getElem_cons_succ, List.getElem_cons_zero, List.setIfInBounds_toArray, List.set_cons_succ, List.set_cons_zero]
  repeat (go_big_quiet_step ((fail)))
  refine wpQuiet_nil ?_
  clear m1 m2 m3 m4 m5 m6 hne
  refine Qt.wpAnyT_two (i := 23) (j := 33) (by kernel_rfl) rfl rfl ?_ ?_
  · skip
    go_wp2
    obtain ⟨wa1, hw⟩ : ∃ wa1, wa1 = w4.alloc (.cells #[.int .i64 (y : Int)] 3) := ⟨_, rfl⟩
    rw [← hw]
    have HBnwa1 := Aside0.mk (show Below w4.heap.size w4 wa1 from hw ▸ below_alloc (Below.refl _ w4) _)
    have HX1wa1 := Aside0.mk (show wa1.heap[w4.heap.size]? = some (.cells #[.int .i64 (y : Int)] 3 (0, 0)) from hw ▸ heap_alloc_new w4 _)
    obtain ⟨b1wa1, hb⟩ : ∃ b, w4.heap.size = b := ⟨_, rfl⟩
    have HBE1wa1 := Aside0.mk hb
    rw [hb] at HX1wa1 ⊢
    have HCwa1 := Aside0.mk (HS.out.below HBnwa1.out)
    clear hw hb
    refine ⟨fun _ => ⟨CW.mk _ HCwa1.out, rfl⟩, ?_⟩
    refine Qt.wpAnyT_two (i := 24) (j := 33) (by kernel_rfl) rfl rfl ?_ ?_
    · skip
      refine wp_app rfl (.tmp 46) (.tmp 48) rfl Tryz.underlying22 info3 (.slice Af nf cfx) nf b1wa1 (ints (G.L false x)) (y : Int) rfl rfl (own_same HV.out fun k hk => (HBnwa1.out).block k (own_lt HV.out k hk)) HX1wa1.out (by have := HLN.out; omega) ?_
      intro v6 wb2 hk1
      obtain ⟨A6, c6, rfl⟩ := own_slice hk1.out.own
      have HCwb2 := Aside0.mk (cells_grown HCwa1.out hk1.out.by_ (n := w4.heap.size) (by have := (HBnwa1.out).size; omega) (fun p hp => ⟨(HCF.out p hp).1, (HCF.out p hp).2.1⟩))
      go_wp2
      refine ⟨fun _ => ⟨CW.mk _ HCwb2.out, rfl⟩, ?_⟩
      refine Qt.wpAnyT_one (i := 33) (by kernel_rfl) rfl ?_
      go_wp2
      obtain ⟨wb3, hw⟩ : ∃ wb3, wb3 = wb2.alloc (.cells #[.int .i64 (x : Int)] 3) := ⟨_, rfl⟩
      rw [← hw]
      have HBnwb3 := Aside0.mk (show Below wb2.heap.size wb2 wb3 from hw ▸ below_alloc (Below.refl _ wb2) _)
      have HX2wb3 := Aside0.mk (show wb3.heap[wb2.heap.size]? = some (.cells #[.int .i64 (x : Int)] 3 (0, 0)) from hw ▸ heap_alloc_new wb2 _)
      obtain ⟨b2wb3, hb⟩ : ∃ b, wb2.heap.size = b := ⟨_, rfl⟩
      have HBE2wb3 := Aside0.mk hb
      rw [hb] at HX2wb3 ⊢
      have HCwb3 := Aside0.mk (HCwb2.out.below HBnwb3.out)
      clear hw hb
      refine ⟨fun _ => ⟨CW.mk _ HCwb3.out, rfl⟩, ?_⟩
      refine Qt.wpAnyT_one (i := 34) (by kernel_rfl) rfl ?_
      refine wp_app rfl (.tmp 56) (.tmp 58) rfl Tryz.underlying22 info3 (.slice At nt ctx) nt b2wb3 (ints (G.L true y)) (x : Int) rfl rfl (keep_u HV.out HU.out HVU.out HBnwa1.out hk1.out HBnwb3.out) HX2wb3.out (by have := HLN.out; omega) ?_
      intro v7 wb4 hk2
      obtain ⟨A7, c7, rfl⟩ := own_slice hk2.out.own
      have HCwb4 := Aside0.mk (cells_grown HCwb3.out hk2.out.by_ (n := w4.heap.size) (by have := (HBnwa1.out).size; have := hk1.out.by_.size; have := (HBnwb3.out).size; omega) (fun p hp => ⟨(HCF.out p hp).1, (HCF.out p hp).2.2⟩))
      go_wp2
      refine ⟨fun _ => ⟨CW.mk _ HCwb4.out, rfl⟩, ?_⟩
      refine Qt.wpAnyT_one (i := 43) (by kernel_rfl) rfl ?_
      go_wp2_with (go_at_call 150; go_loud (refine (with_calls T y _ HTL.out HY64.out).mono ?_); rintro e wW ⟨rfl, hd⟩; have HDW := Aside0.mk hd.below; clear hd)
      refine ⟨fun _ => ⟨CW.mk _ (HCwb4.out.below HDW.out), rfl⟩, ?_⟩
      refine Qt.wpAnyT_tailL rfl (by kernel_rfl) ?_
      simp only [List.take_succ_cons, List.take_zero, List.drop_succ_cons, List.drop_zero, List.cons_append, List.nil_append]
      have HG2 := Aside0.mk (grown2 HV.out HU.out HVU.out HBnwa1.out hk1.out HBnwb3.out hk2.out HDW.out)
      have HCW := Aside0.mk (HCwb4.out.below HDW.out)
      have s1 : wW.cell? ⟨kf, x, none⟩ = some (.slice Af nf cfx) := HCW.out.get 3 HCL.out.1
      have s2 : wW.cell? ⟨kt, y, none⟩ = some (.slice At nt ctx) := HCW.out.get 4 HCL.out.2.1
      have s3 : wW.cell? ⟨km, x, none⟩ = some (.int .u64 (T : Int)) := HCW.out.get 5 HCL.out.2.2
      have s4 : wW.frozen? ⟨kf, x, none⟩ = false := (World.frozen?_of_block (HG2.out.chg.block kf HFB.out.1.1 HFB.out.1.2)).trans HFZ.out.1
      have s5 : wW.frozen? ⟨kt, y, none⟩ = false := (World.frozen?_of_block (HG2.out.chg.block kt HFB.out.2.1.1 HFB.out.2.1.2)).trans HFZ.out.2.1
      have s6 : wW.frozen? ⟨km, x, none⟩ = false := (World.frozen?_of_block (HG2.out.chg.block km HFB.out.2.2.1.1 HFB.out.2.2.1.2)).trans HFZ.out.2.2
      have hgW := (HG2.out.chg.block g HFB.out.2.2.2.1 HFB.out.2.2.2.2).trans HBK.out
      have s7 : wW.cell? ⟨g, 3, none⟩ = some (.int .i64 G.n) := (blk_cell hgW 3).trans rfl
      have s8 : wW.frozen? ⟨g, 3, none⟩ = false := blk_frozen hgW 3
      have HADD := Aside0.mk (fun nn : Int => GrP.add HP.out nn HXY.out.1 HXY.out.2 HSH.out.1 HSH.out.2.1 HSH.out.2.2 (HEQ.out _ _ _ HG2.out))
      obtain ⟨r1, r2, r3, r4, r5, r6, r7, r8, r9, r10, r11, r12⟩ := HNE.out
      clear hgW
      go_wp2
      go_ret2
      exact ⟨rfl, by have h := HADD.out (wrap64 (G.n + 1)); rw [HTE.out] at h; exact ⟨⟨_, _, _, _, h.1.mono fun k _ hk => up_later HB4.out.size (by simp [World.setCell]) k hk⟩, (Chg.of_below HB4.out S).trans h.2⟩⟩
    · skip
      go_wp2
      obtain ⟨wc2, hw⟩ : ∃ wc2, wc2 = wa1.alloc (.cells #[.int .i64 (x : Int)] 3) := ⟨_, rfl⟩
      rw [← hw]
      have HBnwc2 := Aside0.mk (show Below wa1.heap.size wa1 wc2 from hw ▸ below_alloc (Below.refl _ wa1) _)
      have HX2wc2 := Aside0.mk (show wc2.heap[wa1.heap.size]? = some (.cells #[.int .i64 (x : Int)] 3 (0, 0)) from hw ▸ heap_alloc_new wa1 _)
      obtain ⟨b2wc2, hb⟩ : ∃ b, wa1.heap.size = b := ⟨_, rfl⟩
      have HBE2wc2 := Aside0.mk hb
      rw [hb] at HX2wc2 ⊢
      have HCwc2 := Aside0.mk (HCwa1.out.below HBnwc2.out)
      clear hw hb
      refine ⟨fun _ => ⟨CW.mk _ HCwc2.out, rfl⟩, ?_⟩
      have HX1wc2 := Aside0.mk (blk_below HX1wa1.out HBnwc2.out)
      refine Qt.wpAnyT_one (i := 24) (by kernel_rfl) rfl ?_
      refine wp_app rfl (.tmp 46) (.tmp 48) rfl Tryz.underlying22 info3 (.slice Af nf cfx) nf b1wa1 (ints (G.L false x)) (y : Int) rfl rfl (own_same HV.out fun k hk => ((below_step HBnwa1.out HBnwc2.out)).block k (own_lt HV.out k hk)) HX1wc2.out (by have := HLN.out; omega) ?_
      intro v6 wc3 hk1
      obtain ⟨A6, c6, rfl⟩ := own_slice hk1.out.own
      have HCwc3 := Aside0.mk (cells_grown HCwc2.out hk1.out.by_ (n := w4.heap.size) (by have := ((below_step HBnwa1.out HBnwc2.out)).size; omega) (fun p hp => ⟨(HCF.out p hp).1, (HCF.out p hp).2.1⟩))
      go_wp2
      refine ⟨fun _ => ⟨CW.mk _ HCwc3.out, rfl⟩, ?_⟩
      have HX2wc3 := Aside0.mk (blk_grown HX2wc2.out hk1.out.by_ (fun e => by have := own_lt HV.out _ e.symm; have := HBE2wc2.out; have := (HBnwa1.out).size; omega))
      refine Qt.wpAnyT_one (i := 34) (by kernel_rfl) rfl ?_
      refine wp_app rfl (.tmp 56) (.tmp 58) rfl Tryz.underlying22 info3 (.slice At nt ctx) nt b2wc2 (ints (G.L true y)) (x : Int) rfl rfl (keep_u HV.out HU.out HVU.out (below_step HBnwa1.out HBnwc2.out) hk1.out (Below.refl _ _)) HX2wc3.out (by have := HLN.out; omega) ?_
      intro v7 wc4 hk2
      obtain ⟨A7, c7, rfl⟩ := own_slice hk2.out.own
      have HCwc4 := Aside0.mk (cells_grown HCwc3.out hk2.out.by_ (n := w4.heap.size) (by have := ((below_step HBnwa1.out HBnwc2.out)).size; have := hk1.out.by_.size; have := (Below.refl 0 w4).size; omega) (fun p hp => ⟨(HCF.out p hp).1, (HCF.out p hp).2.2⟩))
      go_wp2
      refine ⟨fun _ => ⟨CW.mk _ HCwc4.out, rfl⟩, ?_⟩
      refine Qt.wpAnyT_one (i := 43) (by kernel_rfl) rfl ?_
      go_wp2_with (go_at_call 150; go_loud (refine (with_calls T y _ HTL.out HY64.out).mono ?_); rintro e wW ⟨rfl, hd⟩; have HDW := Aside0.mk hd.below; clear hd)
      refine ⟨fun _ => ⟨CW.mk _ (HCwc4.out.below HDW.out), rfl⟩, ?_⟩
      refine Qt.wpAnyT_tailL rfl (by kernel_rfl) ?_
      simp only [List.take_succ_cons, List.take_zero, List.drop_succ_cons, List.drop_zero, List.cons_append, List.nil_append]
      have HG2 := Aside0.mk (grown2 HV.out HU.out HVU.out (below_step HBnwa1.out HBnwc2.out) hk1.out (Below.refl _ _) hk2.out HDW.out)
      have HCW := Aside0.mk (HCwc4.out.below HDW.out)
      have s1 : wW.cell? ⟨kf, x, none⟩ = some (.slice Af nf cfx) := HCW.out.get 3 HCL.out.1
      have s2 : wW.cell? ⟨kt, y, none⟩ = some (.slice At nt ctx) := HCW.out.get 4 HCL.out.2.1
      have s3 : wW.cell? ⟨km, x, none⟩ = some (.int .u64 (T : Int)) := HCW.out.get 5 HCL.out.2.2
      have s4 : wW.frozen? ⟨kf, x, none⟩ = false := (World.frozen?_of_block (HG2.out.chg.block kf HFB.out.1.1 HFB.out.1.2)).trans HFZ.out.1
      have s5 : wW.frozen? ⟨kt, y, none⟩ = false := (World.frozen?_of_block (HG2.out.chg.block kt HFB.out.2.1.1 HFB.out.2.1.2)).trans HFZ.out.2.1
      have s6 : wW.frozen? ⟨km, x, none⟩ = false := (World.frozen?_of_block (HG2.out.chg.block km HFB.out.2.2.1.1 HFB.out.2.2.1.2)).trans HFZ.out.2.2
      have hgW := (HG2.out.chg.block g HFB.out.2.2.2.1 HFB.out.2.2.2.2).trans HBK.out
      have s7 : wW.cell? ⟨g, 3, none⟩ = some (.int .i64 G.n) := (blk_cell hgW 3).trans rfl
      have s8 : wW.frozen? ⟨g, 3, none⟩ = false := blk_frozen hgW 3
      have HADD := Aside0.mk (fun nn : Int => GrP.add HP.out nn HXY.out.1 HXY.out.2 HSH.out.1 HSH.out.2.1 HSH.out.2.2 (HEQ.out _ _ _ HG2.out))
      obtain ⟨r1, r2, r3, r4, r5, r6, r7, r8, r9, r10, r11, r12⟩ := HNE.out
      clear hgW
      go_wp2
      go_ret2
      exact ⟨rfl, by have h := HADD.out (wrap64 (G.n + 1)); rw [HTE.out] at h; exact ⟨⟨_, _, _, _, h.1.mono fun k _ hk => up_later HB4.out.size (by simp [World.setCell]) k hk⟩, (Chg.of_below HB4.out S).trans h.2⟩⟩
  · skip
    go_wp2
    obtain ⟨wd1, hw⟩ : ∃ wd1, wd1 = w4.alloc (.cells #[.int .i64 (x : Int)] 3) := ⟨_, rfl⟩
    rw [← hw]
    have HBnwd1 := Aside0.mk (show Below w4.heap.size w4 wd1 from hw ▸ below_alloc (Below.refl _ w4) _)
    have HX2wd1 := Aside0.mk (show wd1.heap[w4.heap.size]? = some (.cells #[.int .i64 (x : Int)] 3 (0, 0)) from hw ▸ heap_alloc_new w4 _)
    obtain ⟨b2wd1, hb⟩ : ∃ b, w4.heap.size = b := ⟨_, rfl⟩
    have HBE2wd1 := Aside0.mk hb
    rw [hb] at HX2wd1 ⊢
    have HCwd1 := Aside0.mk (HS.out.below HBnwd1.out)
    clear hw hb
    refine ⟨fun _ => ⟨CW.mk _ HCwd1.out, rfl⟩, ?_⟩
    refine Qt.wpAnyT_one (i := 23) (by kernel_rfl) rfl ?_
    go_wp2
    obtain ⟨wd2, hw⟩ : ∃ wd2, wd2 = wd1.alloc (.cells #[.int .i64 (y : Int)] 3) := ⟨_, rfl⟩
    rw [← hw]
    have HBnwd2 := Aside0.mk (show Below wd1.heap.size wd1 wd2 from hw ▸ below_alloc (Below.refl _ wd1) _)
    have HX1wd2 := Aside0.mk (show wd2.heap[wd1.heap.size]? = some (.cells #[.int .i64 (y : Int)] 3 (0, 0)) from hw ▸ heap_alloc_new wd1 _)
    obtain ⟨b1wd2, hb⟩ : ∃ b, wd1.heap.size = b := ⟨_, rfl⟩
    have HBE1wd2 := Aside0.mk hb
    rw [hb] at HX1wd2 ⊢
    have HCwd2 := Aside0.mk (HCwd1.out.below HBnwd2.out)
    clear hw hb
    refine ⟨fun _ => ⟨CW.mk _ HCwd2.out, rfl⟩, ?_⟩
    have HX2wd2 := Aside0.mk (blk_below HX2wd1.out HBnwd2.out)
    refine Qt.wpAnyT_one (i := 24) (by kernel_rfl) rfl ?_
    refine wp_app rfl (.tmp 46) (.tmp 48) rfl Tryz.underlying22 info3 (.slice Af nf cfx) nf b1wd2 (ints (G.L false x)) (y : Int) rfl rfl (own_same HV.out fun k hk => ((below_step HBnwd1.out HBnwd2.out)).block k (own_lt HV.out k hk)) HX1wd2.out (by have := HLN.out; omega) ?_
    intro v6 wd3 hk1
    obtain ⟨A6, c6, rfl⟩ := own_slice hk1.out.own
    have HCwd3 := Aside0.mk (cells_grown HCwd2.out hk1.out.by_ (n := w4.heap.size) (by have := ((below_step HBnwd1.out HBnwd2.out)).size; omega) (fun p hp => ⟨(HCF.out p hp).1, (HCF.out p hp).2.1⟩))
    go_wp2
    refine ⟨fun _ => ⟨CW.mk _ HCwd3.out, rfl⟩, ?_⟩
    have HX2wd3 := Aside0.mk (blk_grown HX2wd2.out hk1.out.by_ (fun e => by have := own_lt HV.out _ e.symm; have := HBE2wd1.out; have := HSZ.out; omega))
    refine Qt.wpAnyT_one (i := 34) (by kernel_rfl) rfl ?_
    refine wp_app rfl (.tmp 56) (.tmp 58) rfl Tryz.underlying22 info3 (.slice At nt ctx) nt b2wd1 (ints (G.L true y)) (x : Int) rfl rfl (keep_u HV.out HU.out HVU.out (below_step HBnwd1.out HBnwd2.out) hk1.out (Below.refl _ _)) HX2wd3.out (by have := HLN.out; omega) ?_
    intro v7 wd4 hk2
    obtain ⟨A7, c7, rfl⟩ := own_slice hk2.out.own
    have HCwd4 := Aside0.mk (cells_grown HCwd3.out hk2.out.by_ (n := w4.heap.size) (by have := ((below_step HBnwd1.out HBnwd2.out)).size; have := hk1.out.by_.size; have := (Below.refl 0 w4).size; omega) (fun p hp => ⟨(HCF.out p hp).1, (HCF.out p hp).2.2⟩))
    go_wp2
    refine ⟨fun _ => ⟨CW.mk _ HCwd4.out, rfl⟩, ?_⟩
    refine Qt.wpAnyT_one (i := 43) (by kernel_rfl) rfl ?_
    go_wp2_with (go_at_call 150; go_loud (refine (with_calls T y _ HTL.out HY64.out).mono ?_); rintro e wW ⟨rfl, hd⟩; have HDW := Aside0.mk hd.below; clear hd)
    refine ⟨fun _ => ⟨CW.mk _ (HCwd4.out.below HDW.out), rfl⟩, ?_⟩
    refine Qt.wpAnyT_tailL rfl (by kernel_rfl) ?_
    simp only [List.take_succ_cons, List.take_zero, List.drop_succ_cons, List.drop_zero, List.cons_append, List.nil_append]
    have HG2 := Aside0.mk (grown2 HV.out HU.out HVU.out (below_step HBnwd1.out HBnwd2.out) hk1.out (Below.refl _ _) hk2.out HDW.out)
    have HCW := Aside0.mk (HCwd4.out.below HDW.out)
    have s1 : wW.cell? ⟨kf, x, none⟩ = some (.slice Af nf cfx) := HCW.out.get 3 HCL.out.1
    have s2 : wW.cell? ⟨kt, y, none⟩ = some (.slice At nt ctx) := HCW.out.get 4 HCL.out.2.1
    have s3 : wW.cell? ⟨km, x, none⟩ = some (.int .u64 (T : Int)) := HCW.out.get 5 HCL.out.2.2
    have s4 : wW.frozen? ⟨kf, x, none⟩ = false := (World.frozen?_of_block (HG2.out.chg.block kf HFB.out.1.1 HFB.out.1.2)).trans HFZ.out.1
    have s5 : wW.frozen? ⟨kt, y, none⟩ = false := (World.frozen?_of_block (HG2.out.chg.block kt HFB.out.2.1.1 HFB.out.2.1.2)).trans HFZ.out.2.1
    have s6 : wW.frozen? ⟨km, x, none⟩ = false := (World.frozen?_of_block (HG2.out.chg.block km HFB.out.2.2.1.1 HFB.out.2.2.1.2)).trans HFZ.out.2.2
    have hgW := (HG2.out.chg.block g HFB.out.2.2.2.1 HFB.out.2.2.2.2).trans HBK.out
    have s7 : wW.cell? ⟨g, 3, none⟩ = some (.int .i64 G.n) := (blk_cell hgW 3).trans rfl
    have s8 : wW.frozen? ⟨g, 3, none⟩ = false := blk_frozen hgW 3
    have HADD := Aside0.mk (fun nn : Int => GrP.add HP.out nn HXY.out.1 HXY.out.2 HSH.out.1 HSH.out.2.1 HSH.out.2.2 (HEQ.out _ _ _ HG2.out))
    obtain ⟨r1, r2, r3, r4, r5, r6, r7, r8, r9, r10, r11, r12⟩ := HNE.out
    clear hgW
    go_wp2
    go_ret2
    exact ⟨rfl, by have h := HADD.out (wrap64 (G.n + 1)); rw [HTE.out] at h; exact ⟨⟨_, _, _, _, h.1.mono fun k _ hk => up_later HB4.out.size (by simp [World.setCell]) k hk⟩, (Chg.of_below HB4.out S).trans h.2⟩⟩
end Go.Proofs.YtbpoapfkeinjnaaGreatDoor.Ld
