/- The engine of the yard and what it leans on, part 21. -/
import Derived.Test.YtbpoapfkeinjnaaGreatDoorK20
namespace Go.Proofs.YtbpoapfkeinjnaaGreatDoor.Ld
open Go.RowKit Go.Proofs.YtbpoapfkeinjnaaGreatDoorW.PrintWords Go.Proofs.YtbpoapfkeinjnaaGreatDoorW.PrintLast Go.Proofs.YtbpoapfkeinjnaaGreatDoorW.PrintMore
set_option linter.unusedVariables false
set_option linter.unusedSimpArgs false
set_option linter.unnecessarySimpa false
attribute [local go_sem] max2_int min2_int max_two min_two
set_option maxHeartbeats 8000000 in
set_option maxRecDepth 100000 in
theorem Clone68_new (T : Nat → Prop) (A : Option Addr) (n c : Nat) (xs : List Value) (w : World) (hr : RowAt T w 3 1 (.slice A n c) n xs) (h1 : ∀ u, u ∈ xs → u.oneCell' = true) (hn : n ≤ 1000000) :
    Calls Tryz.prog 68 #[.slice A n c] w fun en w' => ∃ v, en = .returned v ∧ NewR w 3 1 v n xs w' := by
  have HR := Aside0.mk hr
  have H1 := Aside0.mk h1
  have kq := fun (w : World) (A : Option Addr) (n c : Nat) => Lib.run_eql_slice_nil (P := Tryz.prog) w 22 3 A n c 0 0 Tryz.underlying22
  clear h1
  cases A with
  | none =>
    obtain rfl : n = 0 := by
      rcases hr.own.2 with ⟨_, h⟩ | ⟨g, cap, cur, h, _⟩
      · exact h
      · cases h
    obtain rfl : xs = [] := List.eq_nil_of_length_eq_zero (by have := hr.own.1; omega)
    clear hr
    go_enter Tryz.func68, Tryz.ntmps68
    go_wp2
    go_ret
    exact ⟨.slice none 0 0, rfl, RowAt.nil _ _ _ _, Below.refl _ w⟩
  | some ad =>
    have HB := Aside0.mk (below_alloc (Below.refl _ w) (.cells #[] 3))
    have HN := Aside0.mk (own_nil_of w 3 1)
    have HL := Aside0.mk (show xs.length = n * 1 from hr.own.1)
    have HC := Aside0.mk (show ∀ j u, xs[j]? = some u → (w.alloc (.cells #[] 3)).cell? (ad.add j) = some u from fun j u hj => by
      rcases HR.out.own.2 with ⟨h, _⟩ | ⟨g, cap, cur, h, _⟩
      · cases h
      · injection h with h _ _
        injection h with h
        subst h
        exact pw_cell_below HB.out (HR.out.own.cells (g := g) rfl j u hj))
    obtain ⟨i0, hi, hz0, hz1, hz2⟩ := info_parts info3
    have HI := Aside0.mk (And.intro hi (And.intro hz0 (And.intro hz1 hz2)))
    clear hr hi hz0 hz1 hz2
    go_enter Tryz.func68, Tryz.ntmps68
    go_wp2_with (at_builtin; go_loud (refine wpList_append_own_at _ rfl (.tmp 5) (.tmp 6) 22 rfl 0 3 i0 (.int .i64 0) 1 8 Tryz.underlying22 HI.out.1 HI.out.2.1 HI.out.2.2.1 HI.out.2.2.2 rfl (by decide) (.slice (some ⟨w.heap.size, 0, none⟩) 0 0) 0 [] rfl ?a1 ad n c xs rfl ?a2 ?a3 ?a4 ?a5 ?a6 (Nat.zero_le _) ?_); (case a1 => exact HN.out); (case a2 => exact HL.out); (case a3 => exact HC.out); (case a4 => exact H1.out); (case a5 => simp only [maxLen]; omega); (case a6 => omega); (intro v6 w6 ho hgr _ hat; have HO := Aside0.mk ho; have HG := Aside0.mk hgr; have HAT := Aside0.mk hat; clear ho hgr hat))
    go_ret
    have ho := HO.out
    rw [Nat.zero_add, List.nil_append] at ho
    exact ⟨v6, rfl, clone_end ho HG.out HAT.out⟩
set_option maxHeartbeats 8000000 in
set_option maxRecDepth 100000 in
theorem all_new {S : Nat → Prop} {g o : Nat} {cs : Array Value} {ty : TypeId} {most : Int} {v : Value} {l : List Int} (w : World) (h : Ids S w g o cs ty most v l) (hn : l.length ≤ 900) :
    Calls Tryz.prog 90 #[.pointer (some ⟨g, o, none⟩)] w fun en w' => ∃ v, en = .returned v ∧ NewRow w v l w' := by
  have hr := h.row
  obtain ⟨A, c, rfl⟩ := hr.slice
  have HR := Aside0.mk hr
  have H1 := Aside0.mk (show ∀ u, u ∈ ints l → u.oneCell' = true from fun u hu => by unfold ints encs at hu; obtain ⟨x, _, rfl⟩ := List.mem_map.1 hu; rfl)
  have c1 := (blk_cell h.blk (o + 1)).trans h.c1
  rcases h.off with rfl | rfl
  all_goals
    clear h hr
    go_enter Tryz.func90, Tryz.ntmps90
    go_wp2_with (go_at_call 68; go_loud (refine (Clone68_new S A l.length c (ints l) _ HR.out H1.out (by omega)).mono ?_); rintro e w1 ⟨v6, rfl, h6⟩; have H6 := Aside0.mk h6; clear h6)
    go_ret
    exact ⟨v6, rfl, H6.out⟩
set_option maxHeartbeats 8000000 in
set_option maxRecDepth 100000 in
theorem Actives_new {S : Nat → Prop} {g : Nat} {a : Adm} (w : World) (h : AdmAt S w g a) (hn : AdmOk a) : Calls Tryz.prog 50 #[.pointer (some ⟨g, 0, none⟩)] w fun en w' => ∃ v, en = .returned v ∧ NewRow w v a.l1 w' := by
  obtain ⟨v1, v2, h⟩ := h
  have H := Aside0.mk h.ids1
  have hl := hn.1
  clear h hn
  go_enter Tryz.func50, Tryz.ntmps50
  go_wp2_with (go_at_call 90; (with_reducible refine (all_new _ H.out (by omega)).mono ?_); rintro e w1 ⟨v6, rfl, h6⟩; have H6 := Aside0.mk h6; clear h6)
  go_ret
  exact ⟨v6, rfl, H6.out⟩
end Go.Proofs.YtbpoapfkeinjnaaGreatDoor.Ld
namespace Go.Proofs.YtbpoapfkeinjnaaGreatDoor.Ld
open Go.RowKit Go.Proofs.YtbpoapfkeinjnaaGreatDoorW.PrintWords Go.Proofs.YtbpoapfkeinjnaaGreatDoorW.PrintLast Go.Proofs.YtbpoapfkeinjnaaGreatDoorW.PrintMore
set_option linter.unusedVariables false
set_option linter.unusedSimpArgs false
set_option linter.unnecessarySimpa false
attribute [local go_sem] max2_int min2_int max_two min_two
set_option maxHeartbeats 8000000 in
set_option maxRecDepth 100000 in
theorem dispatch_of (S : Nat → Prop) (bm g : Nat) (K : EK) (e : Eng) (o1 o2 o3 o4 o5 : Value) (w : World) (H : EngAt S w g K e) (hi : EngInv e) (hs : Sync e) (hg : Glb bm S w) (R : List Nat → Eng → List Nat → Prop)
    (hF : ∀ (w' : World) (S' : Nat → Prop) (l : List Nat) (n cp np cq : Nat) (B P : Option Addr) (pr : Int), EngAt S' w' g K e → l ≠ [] → l.length = n → n ≤ 12 → (∀ x, x ∈ l → x < e.N) → RI w' B (nats l) → np = e.N → (∃ prs, RI w' P prs ∧ prs.length = np) →
      Calls Tryz.prog 54 #[.pointer (some ⟨g, 0, none⟩), .slice B n cp, .int .i64 pr, .slice P np cq] w' (FitsPost S' g K (R l) w'))
    (hR : ∀ l e' ys, R l e' ys → EngInv e' ∧ e'.N = e.N ∧ e'.gr = e.gr ∧ e'.cost = e.cost ∧ e'.tu = e.tu ∧ e'.begun ≤ 1000000 ∧ e'.log.length ≤ 1000000 ∧ (∀ x, x ∈ ys → x < e.N) ∧ ys.length ≤ 12) :
    Calls Tryz.prog 21 #[.pointer (some ⟨g, 0, none⟩), .agg #[o1, o2, o3, o4, o5]] w fun en w' => ∃ a b c d f er e', DispR R e (reply a b c d f) er e' ∧ en = .returned (.tuple #[.agg #[.int .i64 a, .int .i64 b, .int .i64 c, .int .i64 d, .int .i64 f], .int .i64 er]) ∧ To S w g K e' w' := by
  have hz := hg.tz
  have hlt1 := hg.lt
  have HG1 := Aside0.mk hg.n1
  clear hg
  have HF := Aside0.mk hF
  have HRR0 := Aside0.mk hR
  have HI := Aside0.mk hi
  have HSY := Aside0.mk hs
  obtain ⟨wA, hwA⟩ : ∃ wA, wA = w.alloc (.cells #[o1, o2, o3, o4, o5] 39) := ⟨_, rfl⟩
  have hbA : Below w.heap.size w wA := hwA ▸ below_alloc (Below.refl _ w) _
  have hsA : wA.heap.size = w.heap.size + 1 := by rw [hwA]; exact size_alloc _ _
  obtain ⟨w0, hw0⟩ : ∃ w0, w0 = wA.alloc (.cells #[.int .i64 0, .int .i64 0, .int .i64 0, .int .i64 0, .int .i64 0] 34) := ⟨_, rfl⟩
  have HL0 := Aside0.mk (show LocB S wA g K e (fun k => S k ∧ k < wA.heap.size) w0 wA.heap.size rep0 from hw0 ▸ LocB.start (H.keep hbA) rep0)
  have HB0 := Aside0.mk (below_step hbA (show Below wA.heap.size wA w0 from hw0 ▸ below_alloc (Below.refl _ wA) _))
  have HW0 := Aside0.mk (show w0 = (w.alloc (.cells #[o1, o2, o3, o4, o5] 39)).alloc (.cells #[.int .i64 0, .int .i64 0, .int .i64 0, .int .i64 0, .int .i64 0] 34) from hwA ▸ hw0)
  have HBA := Aside0.mk hbA
  have HZ0 := Aside0.mk (show TzTab w0 from fun j hj => pw_cell_below HB0.out (hz j hj))
  have HOK := Aside0.mk (show AdmOk e.ad from by have := hi.ad.len; have := hi.nr; exact ⟨by omega, by omega⟩)
  clear H hi hs hw0 hwA hbA hz hF hR
  go_enter Tryz.func21, Tryz.ntmps21
  go_upto_region 1 with (fail)
  rw [← HW0.out]
  obtain ⟨B, hB⟩ : ∃ B, wA.heap.size = B := ⟨_, rfl⟩
  rw [← hsA, hB]
  have HBB := Aside0.mk hB
  have HSB := Aside0.mk (show w0.heap.size = B + 1 from by rw [← hB]; have h := HW0.out; rw [h, size_alloc, size_alloc, hsA])
  rw [hB] at HL0
  obtain ⟨S1, hS1⟩ : ∃ S1 : Nat → Prop, (fun k => S k ∧ k < B) = S1 := ⟨_, rfl⟩
  rw [hS1] at HL0
  have HN1 := Aside0.mk (show ¬ S1 1 from fun h => by rw [← hS1] at h; exact HG1.out h.1)
  have HT1 := Aside0.mk (show 1 < w0.heap.size from by have := HB0.out.size; omega)
  have HS1 := Aside0.mk (show ∀ k, S1 k → k < B from fun k hk => by rw [← hS1] at hk; exact hk.2)
  clear hB hS1 hsA hlt1
  obtain ⟨c16, S2, had, _, _⟩ := HL0.out.l.at_.ad
  have HAD := Aside0.mk had
  clear had
  go_upto_region 4 with (go_at_call 50; go_loud (refine (Actives_new _ HAD.out HOK.out).mono ?_); rintro en w1 ⟨v6, rfl, hnr⟩; have hb1 := hnr.2; obtain ⟨AI, ci, hv6, hri, hca, hcb, hrc, hrd⟩ := rowI hnr.1; subst hv6; have hrb : ∀ a, AI = some a → 0 < e.ad.l1.length → w0.heap.size ≤ a.block ∧ a.block < w1.heap.size := fun a ha _ => ⟨(hrc a ha).2, own_lt hnr.1.own a.block (by rw [ha]; rfl)⟩; have HCAP := Aside0.mk (And.intro hca (And.intro hcb hrd)); clear hca hcb hrc hrd hnr; have HL1 := Aside0.mk (HL0.out.below hb1); have HRI := Aside0.mk (And.intro hri hrb); have HB1 := Aside0.mk hb1; clear hri hrb hb1)
  clear c16
  obtain ⟨n, hn⟩ : ∃ n, e.ad.l1.length = n := ⟨_, rfl⟩
  have HN := Aside0.mk hn
  rw [hn]
  have hn64 : n ≤ 64 := by have h1 := HI.out.ad.len; have h2 := HI.out.nr; omega
  clear hn
  go_wp2
  go_loopg [7, 8, 28] (n + 1) (fun kq v7 v8 v28 wr => ∃ i : Nat, v28 = .int .i64 (i : Int) ∧ Aside0 (kq + i = n + 1 ∧ i ≤ n ∧ NewR w1 88 3 v7 i (flat encR3 (actR e i)) wr ∧ NewR w1 3 1 v8 i (ints (actRoots e i)) wr))
  case atStart => exact ⟨0, rfl, ⟨by omega, by omega, ⟨RowAt.nil _ _ _ _, Below.refl _ _⟩, ⟨RowAt.nil _ _ _ _, Below.refl _ _⟩⟩⟩
  case round =>
    obtain ⟨i, rfl, hA⟩ := hrel
    obtain ⟨hkq, hi, hr7, hr8⟩ := hA.out
    have HKQ := Aside0.mk hkq
    have HR7 := Aside0.mk hr7
    have HR8 := Aside0.mk hr8
    clear hA hkq hr7 hr8
    by_cases hlt : i < n
    · obtain ⟨ad, rfl, hcell⟩ := RI.at_ (ReadsOf.below HRI.out.1 HR7.out.2) i (by rw [HN.out]; exact hlt)
      obtain ⟨hid, hrl⟩ := HI.out.rid (j := i) (by rw [HN.out]; exact hlt)
      rw [hid] at hcell
      obtain ⟨r, hr⟩ : ∃ r, ridF e i = r := ⟨_, rfl⟩
      rw [hr] at hcell hrl
      have HRR := Aside0.mk hr
      have p1 : (0 ≤ (i : Int)) = True := eq_true (by omega)
      have p2 : ((i : Int) < (n : Int)) = True := eq_true (by omega)
      have p3 : (0 ≤ (r : Int)) = True := eq_true (by omega)
      have p4 : ((r : Int) < (e.nr : Int)) = True := eq_true (by omega)
      clear hid hr
      go_upto_region 7 with (fail)
      obtain ⟨AQ, cq, k1, k2, k3, _⟩ := HL1.out.l.at_.freq r hrl
      obtain ⟨x, hx⟩ : ∃ x, e.rq r = x := ⟨_, rfl⟩
      have HXX := Aside0.mk hx
      rw [hx] at k3
      obtain ⟨ro, hro⟩ : ∃ ro, x.root = ro := ⟨_, rfl⟩
      obtain ⟨wg, hwg⟩ : ∃ wg, x.weight = wg := ⟨_, rfl⟩
      obtain ⟨po, hpo⟩ : ∃ po, x.prio = po := ⟨_, rfl⟩
      have HV := Aside0.mk (And.intro hro (And.intro hwg hpo))
      have k4 := (blk_cell k3 0).trans (show _ = some (.int .i64 ro) from hro ▸ rfl)
      have k5 := (blk_cell k3 1).trans (show _ = some (.int .i64 wg) from hwg ▸ rfl)
      have k6 := (blk_cell k3 2).trans (show _ = some (.int .i64 po) from hpo ▸ rfl)
      clear k3 hx hro hwg hpo
      refine wp_region_any (by kernel_rfl) ?_
      obtain ⟨w3, hw3⟩ : ∃ w3 : World, w3 = { wr with drawn := wr.drawn + 1 } := ⟨_, rfl⟩
      rw [← hw3]
      have hb3 := (show Below wr.heap.size wr w3 from hw3 ▸ pw_below_drewN (Below.refl _ wr) 1)
      have h7b := Aside0.mk (HR7.out.on hb3)
      have h8b := Aside0.mk (HR8.out.on hb3)
      obtain ⟨CL, hCL⟩ : ∃ CL : List (Addr × Value), CL = [(⟨g, 12, none⟩, .slice (some ⟨AQ, 0, none⟩) e.nr cq), (⟨AQ, r, none⟩, .pointer (some ⟨K.rp r, 0, none⟩)), (⟨K.rp r, 0, none⟩, .int .i64 ro), (⟨K.rp r, 1, none⟩, .int .i64 wg), (⟨K.rp r, 2, none⟩, .int .i64 po)] := ⟨_, rfl⟩
      have m1 : ∀ x : CW CL, x.w.cell? ⟨g, 12, none⟩ = some (.slice (some ⟨AQ, 0, none⟩) e.nr cq) := fun x => x.h.get 0 (by rw [hCL]; rfl)
      have m2 : ∀ x : CW CL, x.w.cell? ⟨AQ, r, none⟩ = some (.pointer (some ⟨K.rp r, 0, none⟩)) := fun x => x.h.get 1 (by rw [hCL]; rfl)
      have m3 : ∀ x : CW CL, x.w.cell? ⟨K.rp r, 0, none⟩ = some (.int .i64 ro) := fun x => x.h.get 2 (by rw [hCL]; rfl)
      have m4 : ∀ x : CW CL, x.w.cell? ⟨K.rp r, 1, none⟩ = some (.int .i64 wg) := fun x => x.h.get 3 (by rw [hCL]; rfl)
      have m5 : ∀ x : CW CL, x.w.cell? ⟨K.rp r, 2, none⟩ = some (.int .i64 po) := fun x => x.h.get 4 (by rw [hCL]; rfl)
      have HS := Aside0.mk (show Cells CL w1 from hCL ▸ Cells.cons k1 (Cells.cons k2 (Cells.cons k4 (Cells.cons k5 (Cells.cons k6 (Cells.nil _))))))
      have hne : Nonempty (CW CL) := ⟨⟨_, HS.out⟩⟩
      clear hCL k1 k2 k4 k5 k6 hw3 hb3 HR7 HR8 hcell
      refine Qt.wpAny_of_T (S := fun w' => ∃ x : CW CL, w' = x.w) (n := 27) _ _ _ _ ?_
      refine Qt.wpAnyT_batchL 6 (fun l => l.take 11 ++ (l.drop 13).take 12) (List.range 11 ++ (List.range 12).map (· + 13)) rfl (fun _ _ d _ _ h => by cases d <;> exact h) ⟨CW.mk _ (HS.out.below h7b.out.2), rfl⟩ rfl (by kernel_rfl) (Qt.held_start (by kernel_rfl)) (by kernel_rfl) ?_
      simp only [List.take_succ_cons, List.take_zero, List.drop_succ_cons, List.drop_zero, List.cons_append, List.nil_append]
      repeat (go_big_quiet_step ((fail)))
      refine wpQuiet_nil ?_
      refine Qt.wpAnyT_two (i := 11) (j := 25) (by kernel_rfl) rfl rfl ?_ ?_
      · go_wp2
        obtain ⟨wX1, hwX1⟩ : ∃ wX1, wX1 = w3.alloc (.cells #[.int .i64 ro, .int .i64 wg, .int .i64 po] 88) := ⟨_, rfl⟩
        rw [← hwX1]
        have hbX1 : Below w3.heap.size w3 wX1 := hwX1 ▸ below_alloc (Below.refl _ _) _
        have h7X1 := Aside0.mk (h7b.out.on hbX1)
        have h8X1 := Aside0.mk (h8b.out.on hbX1)
        have kB88X1 := Aside0.mk (show wX1.heap[w3.heap.size]? = some (.cells #[.int .i64 ro, .int .i64 wg, .int .i64 po] 88 (0, 0)) from hwX1 ▸ heap_alloc_new _ _)
        clear hwX1 hbX1
        first | refine ⟨⟨CW.mk _ (HS.out.below h7X1.out.2), rfl⟩, ?_⟩ | refine ⟨fun _ => ⟨CW.mk _ (HS.out.below h7X1.out.2), rfl⟩, ?_⟩
        refine Qt.wpAnyT_two (i := 12) (j := 25) (by kernel_rfl) rfl rfl ?_ ?_
        · refine wp_more rfl (.tmp 32) (.tmp 43) 99 88 (.agg #[.int .i64 0, .int .i64 0, .int .i64 0]) 3 24 rfl Tryz.underlying99 info88 rfl (by decide) u7 i w3.heap.size (flat encR3 (actR e i)) [.int .i64 ro, .int .i64 wg, .int .i64 po] rfl rfl h7X1.out rfl kB88X1.out (by simp [Value.oneCell']) (by omega) (by decide) ?_
          intro v7 wX2 hxX2
          have h7X2 := Aside0.mk hxX2.out.1
          have h8X2 := Aside0.mk (newr_beside h7X1.out h8X1.out (by decide) hxX2.out.2 hxX2.out.1.2)
          clear hxX2
          go_wp2
          refine ⟨fun _ => ⟨CW.mk _ (HS.out.below h7X2.out.2), rfl⟩, ?_⟩
          refine Qt.wpAnyT_one (i := 25) (by kernel_rfl) rfl ?_
          go_wp2
          obtain ⟨wX3, hwX3⟩ : ∃ wX3, wX3 = wX2.alloc (.cells #[.int .i64 ro] 3) := ⟨_, rfl⟩
          rw [← hwX3]
          have hbX3 : Below wX2.heap.size wX2 wX3 := hwX3 ▸ below_alloc (Below.refl _ _) _
          have h7X3 := Aside0.mk (h7X2.out.on hbX3)
          have h8X3 := Aside0.mk (h8X2.out.on hbX3)
          have kB3X3 := Aside0.mk (show wX3.heap[wX2.heap.size]? = some (.cells #[.int .i64 ro] 3 (0, 0)) from hwX3 ▸ heap_alloc_new _ _)
          clear hwX3 hbX3
          first | refine ⟨⟨CW.mk _ (HS.out.below h7X3.out.2), rfl⟩, ?_⟩ | refine ⟨fun _ => ⟨CW.mk _ (HS.out.below h7X3.out.2), rfl⟩, ?_⟩
          refine Qt.wpAnyT_one (i := 26) (by kernel_rfl) rfl ?_
          refine wp_more rfl (.tmp 45) (.tmp 57) 22 3 (.int .i64 0) 1 8 rfl Tryz.underlying22 info3 rfl (by decide) u8 i wX2.heap.size (ints (actRoots e i)) [.int .i64 ro] rfl rfl h8X3.out rfl kB3X3.out (by simp [Value.oneCell']) (by omega) (by decide) ?_
          intro v8 wX4 hxX4
          have h8X4 := Aside0.mk hxX4.out.1
          have h7X4 := Aside0.mk (newr_beside h8X3.out h7X3.out (by decide) hxX4.out.2 hxX4.out.1.2)
          clear hxX4
          go_wp2
          refine ⟨fun _ => ⟨CW.mk _ (HS.out.below h8X4.out.2), rfl⟩, ?_⟩
          refine Qt.wpAnyT_tailL rfl (by kernel_rfl) ?_
          simp only [List.take_succ_cons, List.take_zero, List.drop_succ_cons, List.drop_zero, List.cons_append, List.nil_append]
          go_wp2
          go_roundg (gk - 1)
          case measure => have := HKQ.out; omega
          case rel =>
            have h7z := h7X4.out
            have h8z := h8X4.out
            refine ⟨i + 1, by rw [show ((i : Int) + 1) = ((i + 1 : Nat) : Int) by omega], ⟨by have := HKQ.out; omega, by omega, ?_, ?_⟩⟩
            · rw [actR_succ, HRR.out, HXX.out]; unfold encR3; rw [HV.out.1, HV.out.2.1, HV.out.2.2]; exact h7z
            · rw [actRoots_succ, HRR.out, HXX.out, HV.out.1]; exact h8z
        · go_wp2
          obtain ⟨wX5, hwX5⟩ : ∃ wX5, wX5 = wX1.alloc (.cells #[.int .i64 ro] 3) := ⟨_, rfl⟩
          rw [← hwX5]
          have hbX5 : Below wX1.heap.size wX1 wX5 := hwX5 ▸ below_alloc (Below.refl _ _) _
          have h7X5 := Aside0.mk (h7X1.out.on hbX5)
          have h8X5 := Aside0.mk (h8X1.out.on hbX5)
          have kB3X5 := Aside0.mk (show wX5.heap[wX1.heap.size]? = some (.cells #[.int .i64 ro] 3 (0, 0)) from hwX5 ▸ heap_alloc_new _ _)
          have kB88X5 := Aside0.mk (blk_below kB88X1.out hbX5)
          clear hwX5 hbX5
          first | refine ⟨⟨CW.mk _ (HS.out.below h7X5.out.2), rfl⟩, ?_⟩ | refine ⟨fun _ => ⟨CW.mk _ (HS.out.below h7X5.out.2), rfl⟩, ?_⟩
          refine Qt.wpAnyT_one (i := 12) (by kernel_rfl) rfl ?_
          refine wp_more rfl (.tmp 32) (.tmp 43) 99 88 (.agg #[.int .i64 0, .int .i64 0, .int .i64 0]) 3 24 rfl Tryz.underlying99 info88 rfl (by decide) u7 i w3.heap.size (flat encR3 (actR e i)) [.int .i64 ro, .int .i64 wg, .int .i64 po] rfl rfl h7X5.out rfl kB88X5.out (by simp [Value.oneCell']) (by omega) (by decide) ?_
          intro v7 wX6 hxX6
          have h7X6 := Aside0.mk hxX6.out.1
          have h8X6 := Aside0.mk (newr_beside h7X5.out h8X5.out (by decide) hxX6.out.2 hxX6.out.1.2)
          have kB3X6 := Aside0.mk (blk_grown kB3X5.out hxX6.out.2 (own_ne h7X5.out.1.own kB3X5.out (by decide)))
          clear hxX6
          go_wp2
          refine ⟨fun _ => ⟨CW.mk _ (HS.out.below h7X6.out.2), rfl⟩, ?_⟩
          refine Qt.wpAnyT_one (i := 26) (by kernel_rfl) rfl ?_
          refine wp_more rfl (.tmp 45) (.tmp 57) 22 3 (.int .i64 0) 1 8 rfl Tryz.underlying22 info3 rfl (by decide) u8 i wX1.heap.size (ints (actRoots e i)) [.int .i64 ro] rfl rfl h8X6.out rfl kB3X6.out (by simp [Value.oneCell']) (by omega) (by decide) ?_
          intro v8 wX7 hxX7
          have h8X7 := Aside0.mk hxX7.out.1
          have h7X7 := Aside0.mk (newr_beside h8X6.out h7X6.out (by decide) hxX7.out.2 hxX7.out.1.2)
          clear hxX7
          go_wp2
          refine ⟨fun _ => ⟨CW.mk _ (HS.out.below h8X7.out.2), rfl⟩, ?_⟩
          refine Qt.wpAnyT_tailL rfl (by kernel_rfl) ?_
          simp only [List.take_succ_cons, List.take_zero, List.drop_succ_cons, List.drop_zero, List.cons_append, List.nil_append]
          go_wp2
          go_roundg (gk - 1)
          case measure => have := HKQ.out; omega
          case rel =>
            have h7z := h7X7.out
            have h8z := h8X7.out
            refine ⟨i + 1, by rw [show ((i : Int) + 1) = ((i + 1 : Nat) : Int) by omega], ⟨by have := HKQ.out; omega, by omega, ?_, ?_⟩⟩
            · rw [actR_succ, HRR.out, HXX.out]; unfold encR3; rw [HV.out.1, HV.out.2.1, HV.out.2.2]; exact h7z
            · rw [actRoots_succ, HRR.out, HXX.out, HV.out.1]; exact h8z
      · go_wp2
        obtain ⟨wX8, hwX8⟩ : ∃ wX8, wX8 = w3.alloc (.cells #[.int .i64 ro] 3) := ⟨_, rfl⟩
        rw [← hwX8]
        have hbX8 : Below w3.heap.size w3 wX8 := hwX8 ▸ below_alloc (Below.refl _ _) _
        have h7X8 := Aside0.mk (h7b.out.on hbX8)
        have h8X8 := Aside0.mk (h8b.out.on hbX8)
        have kB3X8 := Aside0.mk (show wX8.heap[w3.heap.size]? = some (.cells #[.int .i64 ro] 3 (0, 0)) from hwX8 ▸ heap_alloc_new _ _)
        clear hwX8 hbX8
        first | refine ⟨⟨CW.mk _ (HS.out.below h7X8.out.2), rfl⟩, ?_⟩ | refine ⟨fun _ => ⟨CW.mk _ (HS.out.below h7X8.out.2), rfl⟩, ?_⟩
        refine Qt.wpAnyT_one (i := 11) (by kernel_rfl) rfl ?_
        go_wp2
        obtain ⟨wX9, hwX9⟩ : ∃ wX9, wX9 = wX8.alloc (.cells #[.int .i64 ro, .int .i64 wg, .int .i64 po] 88) := ⟨_, rfl⟩
        rw [← hwX9]
        have hbX9 : Below wX8.heap.size wX8 wX9 := hwX9 ▸ below_alloc (Below.refl _ _) _
        have h7X9 := Aside0.mk (h7X8.out.on hbX9)
        have h8X9 := Aside0.mk (h8X8.out.on hbX9)
        have kB88X9 := Aside0.mk (show wX9.heap[wX8.heap.size]? = some (.cells #[.int .i64 ro, .int .i64 wg, .int .i64 po] 88 (0, 0)) from hwX9 ▸ heap_alloc_new _ _)
        have kB3X9 := Aside0.mk (blk_below kB3X8.out hbX9)
        clear hwX9 hbX9
        first | refine ⟨⟨CW.mk _ (HS.out.below h7X9.out.2), rfl⟩, ?_⟩ | refine ⟨fun _ => ⟨CW.mk _ (HS.out.below h7X9.out.2), rfl⟩, ?_⟩
        refine Qt.wpAnyT_one (i := 12) (by kernel_rfl) rfl ?_
        refine wp_more rfl (.tmp 32) (.tmp 43) 99 88 (.agg #[.int .i64 0, .int .i64 0, .int .i64 0]) 3 24 rfl Tryz.underlying99 info88 rfl (by decide) u7 i wX8.heap.size (flat encR3 (actR e i)) [.int .i64 ro, .int .i64 wg, .int .i64 po] rfl rfl h7X9.out rfl kB88X9.out (by simp [Value.oneCell']) (by omega) (by decide) ?_
        intro v7 wX10 hxX10
        have h7X10 := Aside0.mk hxX10.out.1
        have h8X10 := Aside0.mk (newr_beside h7X9.out h8X9.out (by decide) hxX10.out.2 hxX10.out.1.2)
        have kB3X10 := Aside0.mk (blk_grown kB3X9.out hxX10.out.2 (own_ne h7X9.out.1.own kB3X9.out (by decide)))
        clear hxX10
        go_wp2
        refine ⟨fun _ => ⟨CW.mk _ (HS.out.below h7X10.out.2), rfl⟩, ?_⟩
        refine Qt.wpAnyT_one (i := 26) (by kernel_rfl) rfl ?_
        refine wp_more rfl (.tmp 45) (.tmp 57) 22 3 (.int .i64 0) 1 8 rfl Tryz.underlying22 info3 rfl (by decide) u8 i w3.heap.size (ints (actRoots e i)) [.int .i64 ro] rfl rfl h8X10.out rfl kB3X10.out (by simp [Value.oneCell']) (by omega) (by decide) ?_
        intro v8 wX11 hxX11
        have h8X11 := Aside0.mk hxX11.out.1
        have h7X11 := Aside0.mk (newr_beside h8X10.out h7X10.out (by decide) hxX11.out.2 hxX11.out.1.2)
        clear hxX11
        go_wp2
        refine ⟨fun _ => ⟨CW.mk _ (HS.out.below h8X11.out.2), rfl⟩, ?_⟩
        refine Qt.wpAnyT_tailL rfl (by kernel_rfl) ?_
        simp only [List.take_succ_cons, List.take_zero, List.drop_succ_cons, List.drop_zero, List.cons_append, List.nil_append]
        go_wp2
        go_roundg (gk - 1)
        case measure => have := HKQ.out; omega
        case rel =>
          have h7z := h7X11.out
          have h8z := h8X11.out
          refine ⟨i + 1, by rw [show ((i : Int) + 1) = ((i + 1 : Nat) : Int) by omega], ⟨by have := HKQ.out; omega, by omega, ?_, ?_⟩⟩
          · rw [actR_succ, HRR.out, HXX.out]; unfold encR3; rw [HV.out.1, HV.out.2.1, HV.out.2.2]; exact h7z
          · rw [actRoots_succ, HRR.out, HXX.out, HV.out.1]; exact h8z
    · have p2 : ((i : Int) < (n : Int)) = False := eq_false (by omega)
      obtain rfl : i = n := by omega
      obtain ⟨AQ, cq, rfl⟩ := HR7.out.1.slice
      obtain ⟨AR, cr, hv8, hrr, -, -, -, -⟩ := rowI (show RowAt (fun k => w1.heap.size ≤ k) wr 3 1 u8 (actRoots e i).length (ints (actRoots e i)) from by rw [actRoots_len]; exact HR8.out.1)
      rw [actRoots_len] at hv8
      subst hv8
      have HRR := Aside0.mk hrr
      have HRQ := Aside0.mk (rqs_of HI.out HN.out HR7.out.1)
      have HL2 := Aside0.mk (HL1.out.below HR7.out.2)
      have HZ2 := Aside0.mk (show TzTab wr from fun j hj => pw_cell_below HR7.out.2 (pw_cell_below HB1.out (HZ0.out j hj)))
      obtain ⟨c13, S3, hgr, _, _⟩ := HL2.out.l.at_.gr
      have HGR := Aside0.mk hgr
      have HRT := Aside0.mk (show ∀ j, j < i → actRt e j < e.gr.N from fun j hj => by rw [HI.out.gN]; exact (HI.out.root (HI.out.rid (j := j) (by have := HN.out; omega)).2).2)
      have HG1 := Aside0.mk (show 1 ≤ e.gr.N from by rw [HI.out.gN]; exact HI.out.N.1)
      clear hrr hgr
      go_upto_region 10 with (go_at_call 51; go_loud (refine (Of_calls S3 K.gg e.gr AQ i cq (actRt e) (actWt e) (actPr e) _ HGR.out HI.out.gr HZ2.out HG1.out HRQ.out (by omega) HRT.out).mono ?_); rintro en w4 ⟨v11, rfl, hp⟩; have HP := Aside0.mk hp; have HL3 := Aside0.mk (HL2.out.below hp.2); clear hp)
      clear c13
      have hlp : (prL e.gr (actRt e) (actPr e) i).length = e.N := by rw [prL_len, HI.out.gN]
      obtain ⟨P, cpp, hv11, hpa1, hpa2, hpa3, -, hpa4⟩ := rowI HP.out.1
      rw [hlp] at hv11 hpa2 hpa4
      obtain ⟨pa, rfl⟩ := hpa4 (by have := HI.out.N; omega)
      subst hv11
      clear hpa4
      have HPA := Aside0.mk hpa1
      have hN := HI.out.N
      obtain ⟨N, hNN⟩ : ∃ N, e.N = N := ⟨_, rfl⟩
      rw [hNN] at hpa2 hN ⊢
      have HNN := Aside0.mk hNN
      have HLP := Aside0.mk hlp
      rw [hNN] at hlp
      have HPC := Aside0.mk (And.intro hpa2 hpa3)
      clear hNN hpa1 hlp hpa2 hpa3
      go_upto_region 11 with (first
        | (go_at_call 53; go_loud (refine (states_calls S1 g K e _ HL3.out.l.at_ (by rw [HNN.out]; omega)).mono ?_); go_loud (rintro en w5 ⟨v68, rfl, hp5⟩); go_loud (rw [HNN.out] at hp5); go_loud (obtain ⟨A1, c1, hv68, h68, -, -, -, -⟩ := rowI hp5.1); go_loud (rw [statesL_len] at hv68); go_loud (subst hv68); go_loud (have H68 := Aside0.mk h68; clear h68; have HST := Aside0.mk hp5; have HL4 := Aside0.mk (HL3.out.below hp5.2); clear hp5))
        | (go_at_call 52; go_loud (refine (Best_calls (statesL e N) (prL e.gr (actRt e) (actPr e) i) N c1 cpp A1 pa _ H68.out (ReadsOf.below HPA.out HST.out.2) (statesL_len e N) (by rw [← HNN.out]; exact HLP.out) HPC.out.1 (by omega) HPC.out.2).mono ?_); rintro en w6 ⟨b, v72, l, rfl, hbest, hrow⟩; have HBE := Aside0.mk hbest; have HRO := Aside0.mk hrow; have HL5 := Aside0.mk (HL4.out.below hrow.2); clear hbest hrow))
      obtain ⟨B7, c7, hv72, h72, -, -, -, -⟩ := rowI HRO.out.1
      have hlen := HBE.out.len
      rw [nats_len] at hv72
      subst hv72
      have HBR := Aside0.mk h72
      obtain ⟨L, hL⟩ : ∃ L, l.length = L := ⟨_, rfl⟩
      rw [hL] at hlen ⊢
      have HLL := Aside0.mk hL
      clear hL h72
      by_cases hl0 : L = 0
      · have HNIL := Aside0.mk (show l = [] from List.eq_nil_of_length_eq_zero (HLL.out.trans hl0))
        subst hl0
        obtain ⟨d0, d1, d2, d3, d4, fb⟩ := reply_cells HL5.out.b
        go_wp2
        obtain ⟨w9, hw9⟩ : ∃ w9, w9 = ((((w6.setCell ⟨B, 0, none⟩ (.int .i64 0)).setCell ⟨B, 1, none⟩ (.int .i64 0)).setCell ⟨B, 2, none⟩ (.int .i64 0)).setCell ⟨B, 3, none⟩ (.int .i64 0)).setCell ⟨B, 4, none⟩ (.int .i64 0) := ⟨_, rfl⟩
        rw [← hw9]
        obtain ⟨⟨e0, e1, e2, e3, e4⟩, hto⟩ := reply_end HL5.out HBA.out HBB.out _ _ _ _ _ hw9
        refine bodyPost_ret (v := .tuple #[.agg #[.int .i64 0, .int .i64 0, .int .i64 0, .int .i64 0, .int .i64 0], .int .i64 6]) (by simp [results, Tryz.results21, go_sem, e0, e1, e2, e3, e4]) rfl ?_
        refine ⟨0, 0, 0, 0, 0, 6, e, ⟨b, l, ?_, .inl ⟨HNIL.out, rfl, rfl, rfl⟩⟩, rfl, hto⟩
        have h := HBE.out
        rw [HN.out, HNN.out]
        exact h
      · have HNE := Aside0.mk (show l ≠ [] from fun h => hl0 (by rw [← HLL.out, h]; rfl))
        have r1 : ((L : Int) == 0) = false := by rw [beq_eq_false_iff_ne]; omega
        have r2 : ((L : Int) = 0) = False := eq_false (by omega)
        have HBI := Aside0.mk (show ∀ x, x ∈ l → x < e.N from fun x hx => by rw [HNN.out]; exact HBE.out.lt x hx)
        go_upto_region 14 with (go_at_call 54; go_loud (refine (HF.out _ S1 l L c7 N cpp B7 (some pa) b HL5.out.l.at_ HNE.out HLL.out (by omega) HBI.out HBR.out HNN.out.symm ⟨prL e.gr (actRt e) (actPr e) i, (ReadsOf.below HPA.out (below_step HST.out.2 HRO.out.2)), by rw [HLP.out]; exact HNN.out⟩).mono ?_); rintro en w7 hpost; rcases hpost with ⟨e1, rfl, hr, hto⟩ | ⟨B8, c8, ys, e1, rfl, hri, hys, hr, hto⟩)
        · have HL7 := Aside0.mk (HL5.out.step hto)
          have HRE := Aside0.mk hr
          clear hr hto
          obtain ⟨d0, d1, d2, d3, d4, fb⟩ := reply_cells HL7.out.b
          go_wp2
          obtain ⟨w9, hw9⟩ : ∃ w9, w9 = ((((w7.setCell ⟨B, 0, none⟩ (.int .i64 0)).setCell ⟨B, 1, none⟩ (.int .i64 0)).setCell ⟨B, 2, none⟩ (.int .i64 0)).setCell ⟨B, 3, none⟩ (.int .i64 0)).setCell ⟨B, 4, none⟩ (.int .i64 0) := ⟨_, rfl⟩
          rw [← hw9]
          obtain ⟨⟨e0, e1, e2, e3, e4⟩, hto⟩ := reply_end HL7.out HBA.out HBB.out _ _ _ _ _ hw9
          refine bodyPost_ret (v := .tuple #[.agg #[.int .i64 0, .int .i64 0, .int .i64 0, .int .i64 0, .int .i64 0], .int .i64 4]) (by simp [results, Tryz.results21, go_sem, e0, e1, e2, e3, e4]) rfl ?_
          refine ⟨0, 0, 0, 0, 0, 4, _, ⟨b, l, ?_, .inr (.inl ⟨HNE.out, HRE.out, rfl, rfl⟩)⟩, rfl, hto⟩
          have h := HBE.out
          rw [HN.out, HNN.out]
          exact h
        · have HRE := Aside0.mk hr
          obtain ⟨i1, i2, i3, i4, i5, i6, i7, i8, i9⟩ := HRR0.out _ _ _ hr
          have HI1 := Aside0.mk i1
          have HE1 := Aside0.mk (And.intro i2 (And.intro i3 (And.intro i4 i5)))
          have HBD := Aside0.mk (And.intro i6 i7)
          have HYS := Aside0.mk (And.intro hys (And.intro i8 i9))
          have hb1' : ∀ a : Addr, w0.heap.size ≤ a.block → a.block < w6.heap.size → w7.heap[a.block]? = w6.heap[a.block]? := fun a h1 h2 => (HL5.out.l.own hto h2 (fun h => by have := HS1.out _ h; have := HSB.out; omega)).2
          have HKI := Aside0.mk (show RI w7 AI e.ad.l1 from RI.same (ReadsOf.below HRI.out.1 (below_step HR7.out.2 (below_step HP.out.2 (below_step HST.out.2 HRO.out.2)))) (fun a ha hp => hb1' a (HRI.out.2 a ha hp).1 (by have h1 := (HRI.out.2 a ha hp).2; have h2 := HR7.out.2.size; have h3 := HP.out.2.size; have h4 := HST.out.2.size; have h5 := HRO.out.2.size; omega)))
          have HKR := Aside0.mk (show RI w7 AR (actRoots e i) from RI.same (ReadsOf.below HRR.out (below_step HP.out.2 (below_step HST.out.2 HRO.out.2))) (fun a ha hp => hb1' a (by subst ha; have h1 := HR8.out.1.fp a.block rfl; have h2 := HB1.out.size; omega) (by subst ha; have h1 := own_lt HR8.out.1.own a.block rfl; have h3 := HP.out.2.size; have h4 := HST.out.2.size; have h5 := HRO.out.2.size; omega)))
          have HZ7 := Aside0.mk (show TzTab w7 from fun j hj => cell_keep (pw_cell_below (below_step HP.out.2 (below_step HST.out.2 HRO.out.2)) (HZ2.out j hj)) (hto.2.block 1 (by have h0 := HT1.out; have h1 := HB1.out.size; have h2 := HR7.out.2.size; have h3 := HP.out.2.size; have h4 := HST.out.2.size; have h5 := HRO.out.2.size; omega) HN1.out))
          have HRY := Aside0.mk hri
          have HL7 := Aside0.mk (HL5.out.step hto)
          clear hr hto i1 i2 i3 i4 i5 i6 i7 i8 i9 hys hri hb1'
          go_upto_region 16 with (fail)
          obtain ⟨A9, ca9, hva, c10, htds⟩ := HL7.out.l.at_.tds
          obtain ⟨c13, S3', hgr, _, _⟩ := HL7.out.l.at_.gr
          rw [HE1.out.2.1] at hgr
          have hN7 : e1.N = N := HE1.out.1.trans HNN.out
          rw [hN7] at c10 htds
          rw [HE1.out.2.2.1] at htds
          have HGR7 := Aside0.mk hgr
          have HTD7 := Aside0.mk htds
          clear hva hgr htds hN7
          have HAL := Aside0.mk (show ∀ x, x ∈ ys → x < N from fun x hx => by rw [← HNN.out]; exact HYS.out.2.1 x hx)
          refine wp_region_any (by kernel_rfl) ?_
          obtain ⟨w8, hw8⟩ : ∃ w8 : World, w8 = { w7 with drawn := w7.drawn + 1 } := ⟨_, rfl⟩
          rw [← hw8]
          have hb8 : Below w7.heap.size w7 w8 := hw8 ▸ pw_below_drewN (Below.refl _ w7) 1
          have HB8 := Aside0.mk hb8
          obtain ⟨CL, hCL⟩ : ∃ CL : List (Addr × Value), CL = [(⟨g, 13, none⟩, .pointer (some ⟨K.gg, 0, none⟩)), (⟨g, 10, none⟩, .slice A9 N ca9)] := ⟨_, rfl⟩
          have m1 : ∀ x : CW CL, x.w.cell? ⟨g, 13, none⟩ = some (.pointer (some ⟨K.gg, 0, none⟩)) := fun x => x.h.get 0 (by rw [hCL]; rfl)
          have m2 : ∀ x : CW CL, x.w.cell? ⟨g, 10, none⟩ = some (.slice A9 N ca9) := fun x => x.h.get 1 (by rw [hCL]; rfl)
          have HS := Aside0.mk (show Cells CL w8 from hCL ▸ Cells.cons (pw_cell_below hb8 c13) (Cells.cons (pw_cell_below hb8 c10) (Cells.nil _)))
          have hne : Nonempty (CW CL) := ⟨⟨_, HS.out⟩⟩
          clear hCL hw8 hb8 c10 c13
          refine Qt.wpAny_of_T (S := fun w' => ∃ x : CW CL, w' = x.w) (n := 16) _ _ _ _ ?_
          refine Qt.wpAnyT_batchL 6 (fun l => l.take 11) (List.range 11) rfl (fun _ _ d _ _ h => by cases d <;> exact h) ⟨CW.mk _ HS.out, rfl⟩ rfl (by kernel_rfl) (Qt.held_start (by kernel_rfl)) (by kernel_rfl) ?_
          simp only [List.take_succ_cons, List.take_zero, List.drop_succ_cons, List.drop_zero, List.cons_append, List.nil_append]
          repeat (go_big_quiet_step ((fail)))
          refine wpQuiet_nil ?_
          refine Qt.wpAnyT_one (i := 11) (by kernel_rfl) rfl ?_
          go_wp2_with (go_at_call 55; go_loud (refine (Wants_calls S3' K.gg e.gr A9 B8 AI AR N ca9 ys.length c8 i ci cr e1.mem e.cost ys e.ad.l1 (actRoots e i) (actRt e) _ (HGR7.out.keep (Keep.of_below HB8.out)) HI.out.gr (HI.out.gN.trans HNN.out) (HTD7.out.below HB8.out) (fun j hj => pw_cell_below HB8.out (HZ7.out j hj)) (ReadsOf.below HRY.out HB8.out) rfl (by have := HYS.out.2.2; omega) HAL.out (ReadsOf.below HKI.out HB8.out) HN.out ?q1 (ReadsOf.below HKR.out HB8.out) (actRoots_len e i) (by omega) ?q2 ?q3 ?q4).mono ?_); (case q1 => have h := HCAP.out.1; rw [HN.out] at h; exact h); (case q2 => have h := HCAP.out.2.2; rw [HN.out] at h; exact h); (case q3 => exact HCAP.out.2.1); (case q4 => intro j hj; have hrd := (HI.out.rid (j := j) (by rw [HN.out]; exact hj)).2; refine ⟨(actRoots_getD e i j hj).trans (HI.out.root hrd).1, ?_⟩; rw [← HNN.out]; exact (HI.out.root hrd).2); rintro en w9 ⟨v16, v17, rfl, hr1, hr2⟩; have HW1 := Aside0.mk (hr1.behind HB8.out); have HW2 := Aside0.mk (hr2.behind HB8.out); have HL9 := Aside0.mk (HL7.out.below (hr1.behind HB8.out).2); have HB9 := Aside0.mk hr1.2; clear hr1 hr2)
          first | refine ⟨⟨CW.mk _ (HS.out.below HB9.out), rfl⟩, ?_⟩ | refine ⟨fun _ => ⟨CW.mk _ (HS.out.below HB9.out), rfl⟩, ?_⟩
          refine Qt.wpAnyT_batchL 1 (fun l => (l.drop 12).take 4) [12, 13, 14, 15] rfl (fun _ _ d _ _ h => by cases d <;> exact h) ⟨CW.mk _ (HS.out.below HB9.out), rfl⟩ rfl (by kernel_rfl) (Qt.held_start (by kernel_rfl)) (by kernel_rfl) ?_
          simp only [List.take_succ_cons, List.take_zero, List.drop_succ_cons, List.drop_zero, List.cons_append, List.nil_append]
          repeat (go_big_quiet_step ((fail)))
          refine wpQuiet_nil ?_
          refine Qt.wpAnyT_tailL rfl (by kernel_rfl) ?_
          simp only [List.take_succ_cons, List.take_zero, List.drop_succ_cons, List.drop_zero, List.cons_append, List.nil_append]
          clear m1 m2
          go_upto_region 17 with (fail)
          obtain ⟨ws, hws⟩ : ∃ ws, wantsL e.gr ys (actRt e) (fun i => e.ad.l1.getD i 0) e.cost i = ws := ⟨_, rfl⟩
          obtain ⟨own, hown⟩ : ∃ own, ownL e.gr ys (actRt e) i = own := ⟨_, rfl⟩
          have hlen2 := wants_len e.gr ys (actRt e) (fun i => e.ad.l1.getD i 0) e.cost i
          rw [hws, hown] at hlen2
          have HWO := Aside0.mk (show dWs e ys = ws ∧ dOwn e ys = own from ⟨by unfold dWs; rw [HN.out]; exact hws, by unfold dOwn; rw [HN.out]; exact hown⟩)
          have h1 := HW1.out
          have h2 := HW2.out
          rw [hws, hown, ← hlen2.1] at h1
          rw [hown] at h2
          obtain ⟨A16, c16, rfl⟩ := h1.1.slice
          have HWA := Aside0.mk h1
          have HWB := Aside0.mk h2
          have HLW := Aside0.mk hlen2
          clear hws hown h1 h2 hlen2 HW1 HW2
          obtain ⟨c17, S4, htu, hlt4, hback⟩ := HL9.out.l.at_.tu
          rw [HE1.out.2.2.2] at htu
          have HTU := Aside0.mk (And.intro htu hlt4)
          have HBACK := Aside0.mk hback
          clear htu hlt4 hback
          go_upto_region 18 with (go_at_call 56; go_loud (refine (TTake_calls S4 K.gu e.tu ws A16 c16 _ HTU.out.2 HTU.out.1 HI.out.tu (fun k => w7.heap.size ≤ k) HWA.out.1 (by have := HLW.out; omega)).mono ?_); rintro en w10 htake; rcases htake with ⟨hf, rfl, ht, hc⟩ | ⟨hf, t1, hm, hti, htl, hct, rfl, ht, hc⟩)
          · have hto := HBACK.out _ _ (ht.mono fun j _ hj => .inl hj) hc
            have HL10 := Aside0.mk ((HL9.out.step hto).below (below_alloc (Below.refl _ w10) (.cells #[.int .i64 0] 3)))
            have HF1 := Aside0.mk hf
            clear hto ht hc hf
            obtain ⟨w11, hw11⟩ : ∃ w11, w11 = w10.alloc (.cells #[.int .i64 0] 3) := ⟨_, rfl⟩
            rw [← hw11] at HL10 ⊢
            clear hw11
            obtain ⟨d0, d1, d2, d3, d4, fb⟩ := reply_cells HL10.out.b
            go_wp2
            obtain ⟨w12, hw12⟩ : ∃ w12, w12 = ((((w11.setCell ⟨B, 0, none⟩ (.int .i64 0)).setCell ⟨B, 1, none⟩ (.int .i64 0)).setCell ⟨B, 2, none⟩ (.int .i64 0)).setCell ⟨B, 3, none⟩ (.int .i64 0)).setCell ⟨B, 4, none⟩ (.int .i64 0) := ⟨_, rfl⟩
            rw [← hw12]
            obtain ⟨⟨e0, e1', e2, e3, e4⟩, hto⟩ := reply_end HL10.out HBA.out HBB.out _ _ _ _ _ hw12
            refine bodyPost_ret (v := .tuple #[.agg #[.int .i64 0, .int .i64 0, .int .i64 0, .int .i64 0, .int .i64 0], .int .i64 6]) (by simp [results, Tryz.results21, go_sem, e0, e1', e2, e3, e4]) rfl ?_
            refine ⟨0, 0, 0, 0, 0, 6, e1, ⟨b, l, ?_, .inr (.inr ⟨HNE.out, e1, ys, HRE.out, HYS.out.1, .inl ⟨by rw [HWO.out.1]; exact HF1.out, rfl, rfl, rfl⟩⟩)⟩, rfl, ?_⟩
            · have h := HBE.out
              rw [HN.out, HNN.out]
              exact h
            · have h5 : ({ e1 with tu := e.tu } : Eng) = e1 := by rw [← HE1.out.2.2.2]
              rw [h5] at hto
              exact hto
          · have hto := HBACK.out _ (tookT t1 (cAt (costsF e.tu.l ws).1 t1)) (ht.mono fun j _ hj => .inl hj) hc
            obtain ⟨k, a, hat, hal, hida, hk, hkl, _, _⟩ := taken_want HI.out.tu hm hct
            have hkn : ∀ j, j < w9.heap.size → w7.heap.size ≤ j → w10.heap[j]? = w9.heap[j]? := fun j h1 h2 => (HL9.out.l.own hto h1 (fun h => by have := h.2; omega)).2
            have HW16 := Aside0.mk (HWA.out.1.keep (w' := w10) (fun j h1 h2 => hkn j h1 h2))
            obtain ⟨A17, c17', hv17, hr17, -, -, hblk17, -⟩ := rowI (show RowAt (fun k => w7.heap.size ≤ k) w9 3 1 v17 (nats own).length (ints (nats own)) from by rw [nats_len]; exact HWB.out.1)
            rw [nats_len] at hv17
            subst hv17
            have HW17 := Aside0.mk (show RI w10 A17 (nats own) from RI.same hr17 (fun ad h1 _ => hkn ad.block (by have := own_lt HWB.out.1.own ad.block (by rw [h1]; rfl); exact this) (hblk17 ad h1).2))
            obtain ⟨id, hid⟩ : ∃ id, (mAt t1).id = id := ⟨_, rfl⟩
            rw [hid] at hk ⊢
            have hko : k < own.length := by have := HLW.out.1; omega
            obtain ⟨t, htt⟩ : ∃ t, own.getD k 0 = t := ⟨_, rfl⟩
            have htN : t < e.N := by
              have h1 := getD_mem own k hko
              rw [htt, ← HWO.out.2] at h1
              unfold dOwn at h1
              exact HYS.out.2.1 t (own_mem h1)
            have HTK := Aside0.mk (And.intro hf (And.intro hm (And.intro hct (And.intro hid (And.intro hk (And.intro hko htt))))))
            have HL10 := Aside0.mk ((HL9.out.step hto).below (below_alloc (Below.refl _ w10) (.cells #[.int .i64 id] 3)))
            have hc18 := (blk_cell (heap_alloc_new w10 (.cells #[.int .i64 id] 3)) 0).trans (show _ = some (Value.int .i64 id) from rfl)
            have hb11 := below_alloc (Below.refl _ w10) (.cells #[.int .i64 id] 3)
            obtain ⟨b18, hb18⟩ : ∃ b18, w10.heap.size = b18 := ⟨_, rfl⟩
            obtain ⟨w11, hw11⟩ : ∃ w11, w11 = w10.alloc (.cells #[.int .i64 id] 3) := ⟨_, rfl⟩
            rw [← hw11] at HL10 hc18 hb11 ⊢
            rw [hb18] at hc18 ⊢
            have HX16 := Aside0.mk (HW16.out.keep (Keep.of_below hb11))
            obtain ⟨od, hod, hoc⟩ := RI.at_ (ReadsOf.below HW17.out hb11) k (by rw [nats_len]; exact hko)
            rw [nats_getD _ _ hko, htt] at hoc
            subst hod
            have HCO := Aside0.mk (And.intro hoc hc18)
            have HE2 := Aside0.mk (show EngInv { e1 with tu := tookT t1 (cAt (costsF e.tu.l ws).1 t1) } from HI1.out.setTu (take_inv hti hct))
            have hkk : wantAt ws id = (k : Int) := hk
            have HKK := Aside0.mk hkk
            have p5 : (0 ≤ (k : Int)) = True := eq_true (by omega)
            have p6 : ((k : Int) < (own.length : Int)) = True := eq_true (by omega)
            clear hto ht hc hf hm hti htl hct hid hk hkl hat hal hida hkn hr17 hblk17 hb11 hw11 hoc hkk hb18
            go_upto_region 21 with (go_at_call 57; go_loud (refine (want_idx (fun k => w7.heap.size ≤ k) ws ws.length c16 b18 A16 id _ HX16.out rfl (by have := HLW.out; omega) HCO.out.2).mono ?_); rintro en w12 ⟨rfl, hb12⟩; rw [HKK.out]; have HL11 := Aside0.mk (HL10.out.below hb12); have hoc := pw_cell_below hb12 HCO.out.1; have hoc2 := pw_cell_below hb12 HCO.out.2; clear hb12)
            go_upto_region 22 with (go_at_call 59; go_loud (refine (starts_calls _ g K _ id t _ HL11.out.l.at_ HE2.out (show t < e1.N from by rw [HE1.out.1]; exact htN) HBD.out.1 HBD.out.2).mono ?_); rintro en w13 hpost; obtain ⟨ra, rb, rc, rd', rf, er, e3, hst, rfl⟩ := hpost.rel5; have HST3 := Aside0.mk hst.out.1; have HL13 := Aside0.mk (HL11.out.step hst.out.2); obtain ⟨d0, d1, d2, d3, d4, fb⟩ := reply_cells (HL11.out.step hst.out.2).b; clear hst hpost)
            obtain ⟨w14, hw14⟩ : ∃ w14, w14 = ((((w13.setCell ⟨B, 0, none⟩ (.int .i64 ra)).setCell ⟨B, 1, none⟩ (.int .i64 rb)).setCell ⟨B, 2, none⟩ (.int .i64 rc)).setCell ⟨B, 3, none⟩ (.int .i64 rd')).setCell ⟨B, 4, none⟩ (.int .i64 rf) := ⟨_, rfl⟩
            rw [← hw14]
            obtain ⟨⟨e0, e1', e2, e3', e4⟩, hto⟩ := reply_end HL13.out HBA.out HBB.out _ _ _ _ _ hw14
            refine bodyPost_ret (v := .tuple #[.agg #[.int .i64 ra, .int .i64 rb, .int .i64 rc, .int .i64 rd', .int .i64 rf], .int .i64 er]) (by simp [results, Tryz.results21, go_sem, e0, e1', e2, e3', e4]) rfl ?_
            obtain ⟨t1f, t1m, t1c, t1i, t1k, t1o, t1t⟩ := HTK.out
            refine ⟨ra, rb, rc, rd', rf, er, e3, ⟨b, l, ?_, .inr (.inr ⟨HNE.out, e1, ys, HRE.out, HYS.out.1, .inr ?_⟩)⟩, rfl, hto⟩
            · have h := HBE.out
              rw [HN.out, HNN.out]
              exact h
            · rw [HWO.out.1, HWO.out.2]
              exact ⟨t1f, t1, t1m, t1c, k, by rw [t1i]; exact t1k, t1o, by rw [t1i, t1t]; exact HST3.out⟩
end Go.Proofs.YtbpoapfkeinjnaaGreatDoor.Ld
